/- intagliolaw06.spoilt. -/
import Derived.Test.YtmcpanjpjnlleaaDoorSpoil0
set_option linter.unusedVariables false
set_option linter.unusedSimpArgs false
namespace Go.Proofs.YtmcpanjpjnlleaaDoor
open Go.RowKit

set_option maxRecDepth 100000 in
set_option maxHeartbeats 8000000 in
theorem spoil_A (s : Schema) (hr : rightB s = true) (d : Nat) (t : Int) (X : St (d + 1)) (cs : List Value) (w0 w : World) (hB0 : Below w0.heap.size w0 w) (h : RdS (d + 1) w0 cs X) (hf : FitT s (d + 1) t X) (how at_ n : Int) (str : ByteArray) (hst : (50 : Int) < (str.size : Int))
    (hat : -9223372036854775808 ≤ at_ ∧ at_ ≤ 9223372036854775807) :
    Calls Tryd.prog 11 #[.agg cs.toArray, turnV how at_ n str false] w (SpP d X w0 w) := by
  obtain ⟨iT, hiT, hzT, hsT, hbT⟩ := info_parts (show (Tryd.prog.info? 34).map (fun i => (i.zero, i.size, i.bytes)) = some (some (.agg #[.int .u64 0, .string ⟨#[]⟩, .slice none 0 0, .slice none 0 0]), 4, 72) by kernel_rfl)
  obtain ⟨iU, hiU, hzU, hsU, hbU⟩ := info_parts (show (Tryd.prog.info? 30).map (fun i => (i.zero, i.size, i.bytes)) = some (some (.int .u64 0), 1, 8) by kernel_rfl)
  have h0 := h
  have UP := hid (show ∀ W, Below w.heap.size w W → Below w0.heap.size w0 W from fun W h => hB0.trans (h.mono hB0.size))
  obtain ⟨a2, p2, a, cap, hcs, hbs, hn, hk, hnm, hkm⟩ := RdN.open h
  subst hcs
  obtain ⟨f1, f2, f3, f4, f5⟩ := hf
  have hN6 := typeL_len hr t
  rw [← f4] at hN6
  obtain ⟨xs, hxr, hxk⟩ := hk.ex
  obtain ⟨b0, hb0⟩ : ∃ b, b = Node.bytes X := ⟨_, rfl⟩
  obtain ⟨n0, hn0⟩ : ∃ b, b = Node.num X := ⟨_, rfl⟩
  obtain ⟨nl, hnl⟩ : ∃ b, b = (Node.nums X).length := ⟨_, rfl⟩
  obtain ⟨N, hN⟩ : ∃ N, N = (Node.kids X).length := ⟨_, rfl⟩
  have Hb0 := hid hb0
  have Hn0 := hid hn0
  have Hnl := hid hnl
  have HN := hid hN
  have H0 := hid h0
  have Hf5 := hid f5
  have Hn := hid hn
  have Hxk := hid hxk
  rw [← hN] at hN6 hkm hxr
  obtain ⟨w1, hw1, hb1, hz1, hV⟩ := TB.make w (U n0) (.string b0) (.slice a2 nl p2) (.slice a N cap) 34
  obtain ⟨w2, hw2, hb2, hQ⟩ := QB.make w1 how at_ n str false 26
  obtain ⟨w3, hw3, hb3, hz3, hR⟩ := TB.make w2 (.int .u64 0) (.string ⟨#[]⟩) (.slice none 0 0) (.slice none 0 0) 34
  have hB3 := via (via hb1 hb2) hb3
  have hlen := hxr.len
  have hV3 := (hV.below hb2).below hb3
  have ⟨vlt, v0, v1, v2, v3, vf⟩ := hV3
  have ⟨rlt, r0, r1, r2, r3, rf⟩ := hR
  have hQ3 := hQ.below hb3
  have ⟨qlt, q0, q1, q2, q3, q4, qf⟩ := hQ3
  have g0 := rf 0
  have g1 := rf 1
  have g2 := rf 2
  have g3 := rf 3
  have j3 := vf 3
  rw [← hb0, ← hn0, ← hN, ← hnl]
  clear hb0 hn0 hnl hN h0 h hxk hn hk f1 f2 f3 f4 f5 qf vf rf hz1 hz3
  unfold turnV
  by_cases hN0 : N = 0
  · subst hN0
    go_enter Tryd.func11, Tryd.ntmps11
    go_wp2_with fail
    have hR9 := (((hR.set0 (U n0)).set1 (.string b0)).set2 (.slice a2 nl p2)).set3 (.slice a 0 cap)
    have hb9 := (((hB3.setCell (p := ⟨w2.heap.size, 0, none⟩) (Nat.le_trans hb1.size hb2.size) (U n0)).setCell (p := ⟨w2.heap.size, 1, none⟩) (Nat.le_trans hb1.size hb2.size) (.string b0)).setCell (p := ⟨w2.heap.size, 2, none⟩) (Nat.le_trans hb1.size hb2.size) (.slice a2 nl p2)).setCell (p := ⟨w2.heap.size, 3, none⟩) (Nat.le_trans hb1.size hb2.size) (.slice a 0 cap)
    clear v0 v1 v2 v3 r0 r1 r2 r3 q0 q1 q2 q3 q4 g0 g1 g2 g3 j3
    generalize (((w3.setCell ⟨w2.heap.size, 0, none⟩ (U n0)).setCell ⟨w2.heap.size, 1, none⟩ (.string b0)).setCell ⟨w2.heap.size, 2, none⟩ (.slice a2 nl p2)).setCell ⟨w2.heap.size, 3, none⟩ (.slice a 0 cap) = w9 at *
    have ⟨_, r0, r1, r2, r3, _⟩ := hR9
    (try simp only [Exit.inBlock, Exit.then])
    refine bodyPost_ret (by simp [results, Tryd.results11, go_sem, r0, r1, r2, r3]; try rfl) rfl ?_
    have h9 := fun W (hW : Below w0.heap.size w0 W) => H0.out.below hW (Nat.le_refl _)
    rw [← Hn0.out, ← Hb0.out, ← Hnl.out, ← HN.out] at h9
    exact ⟨_, _, _, _, X, rfl, ⟨rfl, rfl⟩, fun W hW _ => h9 W hW, hb9⟩
  · have hNp : (0 : Int) < (N : Int) := by omega
    obtain ⟨kb, ko, cap', he, hcap1, hcap2, hkb, hkc⟩ := hxr.cons (by omega)
    simp only [Value.slice.injEq, true_and] at he
    obtain ⟨rfl, rfl⟩ := he
    have hone := hid (chunk_one (by rw [← HN.out]; exact hlen) Hxk.out)
    have hnews := hid fun (j : Nat) (u : Value) (e : xs[j]? = some u) => show (w3.alloc (.cells #[] 34)).cell? ((⟨kb, ko, none⟩ : Addr).add j) = some u from by
      have hj : j < N * 4 := by have := (List.getElem?_eq_some_iff.1 e).1; omega
      rw [Addr.add_lit, (UP.out _ (hB3.alloc hB3.size _)).cell (p := ⟨kb, ko + j, none⟩) hkb, hkc j hj]; exact e
    have hlenH := hid hlen
    clear hkc hxr hlen hcap1 hcap2
    go_enter Tryd.func11, Tryd.ntmps11
    go_wp2_with (at_builtin; refine wpList_append_lies (w := w3.alloc (.cells #[] 34)) rfl (.tmp 13) (.tmp 15) 32 rfl w3.heap.size 34 iT _ 4 72 Tryd.underlying32 hiT hzT hsT hbT rfl (by omega) (.slice (some ⟨w3.heap.size, 0, none⟩) 0 0) 0 [] rfl (World.ownsRow_made w3 #[] 0 (Nat.le_refl _) (by simp [maxLen]) rfl) ⟨kb, ko, none⟩ N cap xs rfl hlenH.out hnews.out hone.out (by omega) (by unfold maxLen; omega) (by omega) (by simp) (w3.heap.size + 1) (by simp) ?_; intro g c w4 h6 h7 h8 h9; rw [List.nil_append, Nat.zero_add] at h6; have hgw := sp_block h8; have hb34 := sp_below h7; have hV4 := hV3.below hb34; have hQ4 := hQ3.below hb34; have hR4 := hR.below hb34; clear h7 h8 v0 v1 v2 v3 r0 r1 r2 r3 q0 q1 q2 q3 q4 g0 g1 g2 g3 j3; have y3 := hV4.c3; have y4 := hV4.fz 3)
    clear hw1 hw2 hw3 y3 y4
    have hwg : w.heap.size ≠ g := by have := vlt; omega
    have hw1lt : w.heap.size < w1.heap.size := hV.lt
    have hw2lt : w1.heap.size < w2.heap.size := hQ.lt
    have hw3lt : w2.heap.size < w3.heap.size := hR.lt
    have hV5 := hV4.set3 (.slice (some ⟨g, 0, none⟩) N c)
    have hQ5 := hQ4.far (b := w.heap.size) (o := 3) (by omega) (.slice (some ⟨g, 0, none⟩) N c)
    have hR5 := hR4.far (b := w.heap.size) (o := 3) (by omega) (.slice (some ⟨g, 0, none⟩) N c)
    have hB5 := (hB3.trans (hb34.mono hB3.size)).setCell (p := ⟨w.heap.size, 3, none⟩) (Nat.le_refl _) (.slice (some ⟨g, 0, none⟩) N c)
    have hS5 : SpV (RdF d) w0 (w4.setCell ⟨w.heap.size, 3, none⟩ (.slice (some ⟨g, 0, none⟩) N c)) w3.heap.size g N c xs (Node.kids X) :=
      ⟨own_keep h6 (fun q e => Below.heap_setCell _ _ _ _ (by rintro rfl; exact hwg (by simpa [Value.ownBlock] using e.symm))), HN.out.symm, fun j k hj W' hW => RdF.below (d := d) (Hxk.out j k hj) hW (Nat.le_refl _)⟩
    clear h6 hV4 hQ4 hR4 hV3 hQ3 hR hV hQ hone hnews
    generalize w4.setCell ⟨w.heap.size, 3, none⟩ (.slice (some ⟨g, 0, none⟩) N c) = w5 at *
    have hnz : ((N : Int) == 0) = false := by rw [beq_eq_false_iff_ne]; omega
    have t1 := Int.tmod_lt_of_pos at_ hNp
    have t2 := Int.lt_tmod_of_pos at_ hNp
    obtain ⟨x, hx⟩ : ∃ x, Int.tmod at_ (N : Int) = x := ⟨_, rfl⟩
    rw [hx] at t1 t2
    have e0 := Int.emod_nonneg (x + (N : Int)) (show (N : Int) ≠ 0 by omega)
    have e1 := Int.emod_lt_of_pos (x + (N : Int)) hNp
    obtain ⟨i, hi⟩ : ∃ i : Nat, (x + (N : Int)) % (N : Int) = (i : Int) := ⟨((x + (N : Int)) % (N : Int)).toNat, by omega⟩
    have hi' : x % (N : Int) = (i : Int) := by rw [← hi]; simp
    have hiN : i < N := by omega
    clear e0 e1
    have hVc := hV5.c3
    have hQc := hQ5.c1
    have hwt : (IntKind.i64.wrap (x + (N : Int))).tmod (N : Int) = (i : Int) := by
      rw [IntWalk.i64_in _ (by omega), Int.tmod_eq_emod_of_nonneg (by omega), hi]
    refine wp_region_held_drew (S := (fun W => W.cell? ⟨w.heap.size, 3, none⟩ = some (.slice (some ⟨g, 0, none⟩) N c) ∧ W.cell? ⟨w1.heap.size, 1, none⟩ = some (.int .i64 at_))) (by kernel_rfl) ?_ (fun hHeld => ?_)
    · exact ⟨hVc, hQc⟩
    refine wpAnyH_take (i := 0) (oi := { dst := some 18, op := Go.Op.fieldAddr 26 (Go.Operand.tmp 3) 1, type := 0, pos := "law.go:42", after := #[], guard := none }) (v := ?va0) rfl (by kernel_rfl) (by kernel_rfl) (by kernel_rfl) (fun _ _ _ h => h) (Or.inl ⟨by rfl, ?hya0⟩) (by assumption) ?resta0
    case hya0 => first | (intro w hSw; (try dsimp only at hSw); go_simp; done) | (intro w hSw; (try dsimp only at hSw); go_simp; with_reducible rfl)
    try simp only [Act.put, List.setIfInBounds_toArray, List.set_cons_zero, List.set_cons_succ]
    refine wpAnyH_take (i := 1) (oi := { dst := some 19, op := Go.Op.load 3 (Go.Operand.tmp 18), type := 3, pos := "law.go:42", after := #[{ on := 0, ground := Go.Ground.data }], guard := none }) (v := ?va1) rfl (by kernel_rfl) (by kernel_rfl) (by kernel_rfl) (fun _ _ _ h => h) (Or.inl ⟨by rfl, ?hya1⟩) (by assumption) ?resta1
    case hya1 => first | (intro w hSw; (try dsimp only at hSw); go_simp; done) | (intro w hSw; (try dsimp only at hSw); go_simp; with_reducible rfl)
    try simp only [Act.put, List.setIfInBounds_toArray, List.set_cons_zero, List.set_cons_succ]
    refine wpAnyH_take (i := 2) (oi := { dst := some 20, op := Go.Op.fieldAddr 34 (Go.Operand.tmp 2) 3, type := 0, pos := "law.go:42", after := #[], guard := none }) (v := ?va2) rfl (by kernel_rfl) (by kernel_rfl) (by kernel_rfl) (fun _ _ _ h => h) (Or.inl ⟨by rfl, ?hya2⟩) (by assumption) ?resta2
    case hya2 => first | (intro w hSw; (try dsimp only at hSw); go_simp; done) | (intro w hSw; (try dsimp only at hSw); go_simp; with_reducible rfl)
    try simp only [Act.put, List.setIfInBounds_toArray, List.set_cons_zero, List.set_cons_succ]
    refine wpAnyH_take (i := 3) (oi := { dst := some 21, op := Go.Op.load 32 (Go.Operand.tmp 20), type := 32, pos := "law.go:42", after := #[{ on := 2, ground := Go.Ground.data }], guard := none }) (v := ?va3) rfl (by kernel_rfl) (by kernel_rfl) (by kernel_rfl) (fun _ _ _ h => h) (Or.inl ⟨by rfl, ?hya3⟩) (by assumption) ?resta3
    case hya3 => first | (intro w hSw; (try dsimp only at hSw); go_simp; done) | (intro w hSw; (try dsimp only at hSw); go_simp; with_reducible rfl)
    try simp only [Act.put, List.setIfInBounds_toArray, List.set_cons_zero, List.set_cons_succ]
    refine wpAnyH_take (i := 4) (oi := { dst := some 22, op := Go.Op.call { callee := Go.Callee.builtin Go.Builtin.len, args := #[Go.Operand.tmp 21], argTypes := #[32] }, type := 3, pos := "law.go:42", after := #[{ on := 3, ground := Go.Ground.data }], guard := none }) (v := ?va4) rfl (by kernel_rfl) (by kernel_rfl) (by kernel_rfl) (fun _ _ _ h => h) (Or.inl ⟨by rfl, ?hya4⟩) (by assumption) ?resta4
    case hya4 => first | (intro w hSw; (try dsimp only at hSw); go_simp; done) | (intro w hSw; (try dsimp only at hSw); go_simp; with_reducible rfl)
    try simp only [Act.put, List.setIfInBounds_toArray, List.set_cons_zero, List.set_cons_succ]
    refine wpAnyH_take (i := 5) (oi := { dst := some 23, op := Go.Op.binOp Go.BinOp.rem 3 (Go.Operand.tmp 19) (Go.Operand.tmp 22) 3, type := 3, pos := "law.go:42", after := #[{ on := 1, ground := Go.Ground.data }, { on := 4, ground := Go.Ground.data }], guard := none }) (v := ?va5) rfl (by kernel_rfl) (by kernel_rfl) (by kernel_rfl) (fun _ _ _ h => h) (Or.inl ⟨by rfl, ?hya5⟩) (by assumption) ?resta5
    case hya5 => first | (intro w hSw; (try dsimp only at hSw); go_simp; done) | (intro w hSw; (try dsimp only at hSw); go_simp; with_reducible rfl)
    try simp only [Act.put, List.setIfInBounds_toArray, List.set_cons_zero, List.set_cons_succ]
    refine wpAnyH_take (i := 6) (oi := { dst := some 24, op := Go.Op.fieldAddr 34 (Go.Operand.tmp 2) 3, type := 0, pos := "law.go:42", after := #[], guard := none }) (v := ?va6) rfl (by kernel_rfl) (by kernel_rfl) (by kernel_rfl) (fun _ _ _ h => h) (Or.inl ⟨by rfl, ?hya6⟩) (by assumption) ?resta6
    case hya6 => first | (intro w hSw; (try dsimp only at hSw); go_simp; done) | (intro w hSw; (try dsimp only at hSw); go_simp; with_reducible rfl)
    try simp only [Act.put, List.setIfInBounds_toArray, List.set_cons_zero, List.set_cons_succ]
    refine wpAnyH_take (i := 7) (oi := { dst := some 25, op := Go.Op.load 32 (Go.Operand.tmp 24), type := 32, pos := "law.go:42", after := #[{ on := 6, ground := Go.Ground.data }], guard := none }) (v := ?va7) rfl (by kernel_rfl) (by kernel_rfl) (by kernel_rfl) (fun _ _ _ h => h) (Or.inl ⟨by rfl, ?hya7⟩) (by assumption) ?resta7
    case hya7 => first | (intro w hSw; (try dsimp only at hSw); go_simp; done) | (intro w hSw; (try dsimp only at hSw); go_simp; with_reducible rfl)
    try simp only [Act.put, List.setIfInBounds_toArray, List.set_cons_zero, List.set_cons_succ]
    refine wpAnyH_take (i := 8) (oi := { dst := some 26, op := Go.Op.call { callee := Go.Callee.builtin Go.Builtin.len, args := #[Go.Operand.tmp 25], argTypes := #[32] }, type := 3, pos := "law.go:42", after := #[{ on := 7, ground := Go.Ground.data }], guard := none }) (v := ?va8) rfl (by kernel_rfl) (by kernel_rfl) (by kernel_rfl) (fun _ _ _ h => h) (Or.inl ⟨by rfl, ?hya8⟩) (by assumption) ?resta8
    case hya8 => first | (intro w hSw; (try dsimp only at hSw); go_simp; done) | (intro w hSw; (try dsimp only at hSw); go_simp; with_reducible rfl)
    try simp only [Act.put, List.setIfInBounds_toArray, List.set_cons_zero, List.set_cons_succ]
    refine wpAnyH_take (i := 9) (oi := { dst := some 27, op := Go.Op.binOp Go.BinOp.add 3 (Go.Operand.tmp 23) (Go.Operand.tmp 26) 3, type := 3, pos := "law.go:42", after := #[{ on := 5, ground := Go.Ground.data }, { on := 8, ground := Go.Ground.data }], guard := none }) (v := ?va9) rfl (by kernel_rfl) (by kernel_rfl) (by kernel_rfl) (fun _ _ _ h => h) (Or.inl ⟨by rfl, ?hya9⟩) (by assumption) ?resta9
    case hya9 => first | (intro w hSw; (try dsimp only at hSw); go_simp; done) | (intro w hSw; (try dsimp only at hSw); go_simp; with_reducible rfl)
    try simp only [Act.put, List.setIfInBounds_toArray, List.set_cons_zero, List.set_cons_succ]
    refine wpAnyH_take (i := 10) (oi := { dst := some 28, op := Go.Op.fieldAddr 34 (Go.Operand.tmp 2) 3, type := 0, pos := "law.go:42", after := #[], guard := none }) (v := ?va10) rfl (by kernel_rfl) (by kernel_rfl) (by kernel_rfl) (fun _ _ _ h => h) (Or.inl ⟨by rfl, ?hya10⟩) (by assumption) ?resta10
    case hya10 => first | (intro w hSw; (try dsimp only at hSw); go_simp; done) | (intro w hSw; (try dsimp only at hSw); go_simp; with_reducible rfl)
    try simp only [Act.put, List.setIfInBounds_toArray, List.set_cons_zero, List.set_cons_succ]
    refine wpAnyH_take (i := 11) (oi := { dst := some 29, op := Go.Op.load 32 (Go.Operand.tmp 28), type := 32, pos := "law.go:42", after := #[{ on := 10, ground := Go.Ground.data }], guard := none }) (v := ?va11) rfl (by kernel_rfl) (by kernel_rfl) (by kernel_rfl) (fun _ _ _ h => h) (Or.inl ⟨by rfl, ?hya11⟩) (by assumption) ?resta11
    case hya11 => first | (intro w hSw; (try dsimp only at hSw); go_simp; done) | (intro w hSw; (try dsimp only at hSw); go_simp; with_reducible rfl)
    try simp only [Act.put, List.setIfInBounds_toArray, List.set_cons_zero, List.set_cons_succ]
    refine wpAnyH_take (i := 12) (oi := { dst := some 30, op := Go.Op.call { callee := Go.Callee.builtin Go.Builtin.len, args := #[Go.Operand.tmp 29], argTypes := #[32] }, type := 3, pos := "law.go:42", after := #[{ on := 11, ground := Go.Ground.data }], guard := none }) (v := ?va12) rfl (by kernel_rfl) (by kernel_rfl) (by kernel_rfl) (fun _ _ _ h => h) (Or.inl ⟨by rfl, ?hya12⟩) (by assumption) ?resta12
    case hya12 => first | (intro w hSw; (try dsimp only at hSw); go_simp; done) | (intro w hSw; (try dsimp only at hSw); go_simp; with_reducible rfl)
    try simp only [Act.put, List.setIfInBounds_toArray, List.set_cons_zero, List.set_cons_succ]
    refine wpAnyH_take (i := 13) (oi := { dst := some 31, op := Go.Op.binOp Go.BinOp.rem 3 (Go.Operand.tmp 27) (Go.Operand.tmp 30) 3, type := 3, pos := "law.go:42", after := #[{ on := 9, ground := Go.Ground.data }, { on := 12, ground := Go.Ground.data }], guard := none }) (v := ?va13) rfl (by kernel_rfl) (by kernel_rfl) (by kernel_rfl) (fun _ _ _ h => h) (Or.inl ⟨by rfl, ?hya13⟩) (by assumption) ?resta13
    case hya13 => first | (intro w hSw; (try dsimp only at hSw); go_simp; done) | (intro w hSw; (try dsimp only at hSw); go_simp; with_reducible rfl)
    try simp only [Act.put, List.setIfInBounds_toArray, List.set_cons_zero, List.set_cons_succ]
    refine wpAnyH_take (i := 14) (oi := { dst := some 5, op := Go.Op.assign (Go.Operand.tmp 31), type := 3, pos := "law.go:42", after := #[{ on := 13, ground := Go.Ground.data }, { on := 0, ground := Go.Ground.phase }, { on := 1, ground := Go.Ground.phase }, { on := 2, ground := Go.Ground.phase }, { on := 3, ground := Go.Ground.phase }, { on := 4, ground := Go.Ground.phase }, { on := 5, ground := Go.Ground.phase }, { on := 6, ground := Go.Ground.phase }, { on := 7, ground := Go.Ground.phase }, { on := 8, ground := Go.Ground.phase }, { on := 9, ground := Go.Ground.phase }, { on := 10, ground := Go.Ground.phase }, { on := 11, ground := Go.Ground.phase }, { on := 12, ground := Go.Ground.phase }, { on := 13, ground := Go.Ground.phase }], guard := none }) (v := ?va14) rfl (by kernel_rfl) (by kernel_rfl) (by kernel_rfl) (fun _ _ _ h => h) (Or.inl ⟨by rfl, ?hya14⟩) (by assumption) ?resta14
    case hya14 => first | (intro w hSw; (try dsimp only at hSw); go_simp; done) | (intro w hSw; (try dsimp only at hSw); go_simp; with_reducible rfl)
    try simp only [Act.put, List.setIfInBounds_toArray, List.set_cons_zero, List.set_cons_succ]
    refine wpAnyH_done (by kernel_rfl) ?_ _

    have hV6 : TB w5.drew w.heap.size (U n0) (.string b0) (.slice a2 nl p2) (.slice (some ⟨g, 0, none⟩) N c) := hV5.of_block rfl hV5.lt
    have hQ6 : QB w5.drew w1.heap.size how at_ n str false := hQ5.of_block rfl hQ5.lt
    have hR6 : TB w5.drew w2.heap.size (.int .u64 0) (.string ⟨#[]⟩) (.slice none 0 0) (.slice none 0 0) := hR5.of_block rfl hR5.lt
    have hS6 := hS5.keep (W' := w5.drew) rfl
    have hB6 : Below w.heap.size w w5.drew := hB5.trans (below_drewN _ _ 1)
    clear hV5 hQ5 hR5 hS5 hB5 hVc hQc hHeld hi hi' hx hwt hnz t1 t2 hNp
    generalize w5.drew = w6 at *
    clear w5
    have hil : i < (Node.kids X).length := by rw [← HN.out]; exact hiN
    obtain ⟨k, hk⟩ : ∃ k, (Node.kids X)[i]? = some k := ⟨_, List.getElem?_eq_getElem hil⟩
    have hkr := Hxk.out i k hk
    obtain ⟨ka2, kp2, ka3, kp3, hke, hkb, hkn, hkk, hkn2, hkk2⟩ := RdN.open hkr
    rw [hke] at hkr
    have ⟨c0, c1, c2, c3, cf⟩ := hS6.cells hiN hke
    obtain ⟨hkhas, hksm, hkfit⟩ := Hf5.out i k hk
    have Hkr := hid hkr
    have Hkn := hid hkn
    have Hkk := hid hkk
    have Hkfit := hid hkfit
    have Hk := hid hk
    clear hkr hkn hkk hkfit hk hke hil hkhas cf
    obtain ⟨k0, hk0⟩ : ∃ b, b = k.num := ⟨_, rfl⟩
    obtain ⟨k1, hk1⟩ : ∃ b, b = k.bytes := ⟨_, rfl⟩
    obtain ⟨kn, hkn⟩ : ∃ b, b = k.nums.length := ⟨_, rfl⟩
    obtain ⟨kk, hkk⟩ : ∃ b, b = k.kids.length := ⟨_, rfl⟩
    have Hk0 := hid (And.intro hk0 (And.intro hk1 (And.intro hkn hkk)))
    rw [← hk0] at c0
    rw [← hk1] at c1
    rw [← hkn] at c2
    rw [← hkk] at c3
    rw [← hkn, ← hkk, ← hk1] at hksm
    obtain ⟨hks1, hks2, hks3⟩ := hksm
    clear hk0 hk1 hkn hkk hkb hkn2 hkk2
    obtain ⟨w7, hw7, hb7, hz7, hK⟩ := TB.make w6 (U k0) (.string k1) (.slice ka2 kn kp2) (.slice ka3 kk kp3) 34
    have hQ7 := hQ6.below hb7
    have ⟨klt, y0, y1, y2, y3, yf⟩ := hK
    have ⟨_, v0, v1, v2, v3, vf⟩ := hV6
    have ⟨_, q0, q1, q2, q3, q4, qf⟩ := hQ7
    have v7 := (hV6.below hb7).c3
    clear yf vf qf
    have hgl6 := hS6.lt
    have hgK : g ≠ w6.heap.size := by omega
    have hgV : g ≠ w.heap.size := by have := hB3.size; omega
    have hgR : g ≠ w2.heap.size := by omega
    have hVK : w.heap.size ≠ w6.heap.size := by omega
    have hKV : w6.heap.size ≠ w.heap.size := fun e => hVK e.symm
    have hVR : w.heap.size ≠ w2.heap.size := by omega
    have hKR : w6.heap.size ≠ w2.heap.size := by have := hR6.lt; omega
    have hwR : w.heap.size ≤ w2.heap.size := by omega
    have HwK := hid hB6.size
    have hw3b : w.heap.size ≤ w3.heap.size := hB3.size
    have hB7 := via hB6 hb7
    have hV7 := hV6.below hb7
    have hR7 := hR6.below hb7
    have hS7 := hS6.keep (W' := w7) (hb7.block g hgl6.1)
    have cc0 := (hb7.cell (p := ⟨g, i * 4, none⟩) hgl6.1).trans c0
    have cc1 := (hb7.cell (p := ⟨g, i * 4 + 1, none⟩) hgl6.1).trans c1
    have cc2 := (hb7.cell (p := ⟨g, i * 4 + 2, none⟩) hgl6.1).trans c2
    have cc3 := (hb7.cell (p := ⟨g, i * 4 + 3, none⟩) hgl6.1).trans c3
    have hth7 : w7.there g (i * 4) 4 := there4 cc0 cc1 cc2 cc3 hS7.own.frozenAt
    have yf := hK.fz
    have yf0 := yf 0
    have yf1 := yf 1
    have yf2 := yf 2
    have yf3 := yf 3
    have ef := hV7.fz
    have ef0 := ef 0
    have ef3 := ef 3
    have HB7 := hid hB7
    have HV7 := hid hV7
    have HR7 := hid hR7
    have HS7 := hid hS7
    have Hth7 := hid hth7
    have Hne := hid (And.intro hgK (And.intro hgV (And.intro hgR (And.intro hVK (And.intro hKV (And.intro hVR (And.intro hKR (And.intro hwR hw3b))))))))
    have Hrd := hid fun W (hW : Below w0.heap.size w0 W) => RdF.below (d := d) Hkr.out hW (Nat.le_refl _)
    clear yf ef cc0 cc1 cc2 cc3 hB7 hV7 hR7 hS7 hth7 hgl6 hB6 hV6 hR6 hS6 hQ6 hQ7 hB3 hb1 hb2 hb3 hb34 hgK hgR hKV hKR hwR hw3b hVR hVK hgV hgw vlt qlt rlt hwg klt hz7 v0 v1 v2 q1
    have hcc : how % 8 = 0 ∨ how % 8 = 1 ∨ how % 8 = 2 ∨ how % 8 = 3 ∨ how % 8 = 4 ∨ how % 8 = 5 ∨ how % 8 = 6 ∨ how % 8 = 7 := by omega
    obtain ⟨SX, hSX⟩ : ∃ SX, SX = str.extract 0 50 := ⟨_, rfl⟩
    have hSS : SX.size ≤ 1000 := by rw [hSX, ByteArray.size_extract]; omega
    replace hSX := hSX.symm
    rcases hcc with hc0 | hc1 | hc2 | hc3 | hc4 | hc5 | hc6 | hc7
    · have hc : how % 8 = 0 := hc0
      have Hth := hid (show World.there (w7.setCell ⟨w6.heap.size, 0, none⟩ (U (BitVec.ofInt 64 n))) g (i * 4) 4 from sp_there Hth7.out Hne.out.1.symm)
      have HS8 : Hid (SpV (RdF d) w0 (w7.setCell ⟨w6.heap.size, 0, none⟩ (U (BitVec.ofInt 64 n))) w3.heap.size g N c xs (Node.kids X)) := hid (HS7.out.keep (Below.heap_setCell _ _ _ _ Hne.out.1))
      have HR8 : Hid (TB (w7.setCell ⟨w6.heap.size, 0, none⟩ (U (BitVec.ofInt 64 n))) w2.heap.size (.int .u64 0) (.string ⟨#[]⟩) (.slice none 0 0) (.slice none 0 0)) := hid (HR7.out.far (Hne.out.2.2.2.2.2.2.1) (U (BitVec.ofInt 64 n)))
      have HV8 : Hid (TB (w7.setCell ⟨w6.heap.size, 0, none⟩ (U (BitVec.ofInt 64 n))) w.heap.size (U (n0)) (.string b0) (.slice a2 nl p2) (.slice (some ⟨g, 0, none⟩) N c)) := hid (HV7.out.far (Hne.out.2.2.2.2.1) (U (BitVec.ofInt 64 n)))
      have Hmid := hid fun (ws : World) (hws : ws = setW4 (w7.setCell ⟨w6.heap.size, 0, none⟩ (U (BitVec.ofInt 64 n))) g (i * 4) (U (BitVec.ofInt 64 n)) (.string k1) (.slice ka2 kn kp2) (.slice ka3 kk kp3)) => show TB ws w.heap.size (U (n0)) (.string b0) (.slice a2 nl p2) (.slice (some ⟨g, 0, none⟩) N c) ∧ ws.there w2.heap.size 0 4 from by
        subst hws
        exact ⟨HV8.out.of_block (setW4_far _ _ _ _ _ _ _ _ (by have := Hne.out; omega)) (by rw [setW4_size]; exact HV8.out.lt), (HR8.out.of_block (setW4_far _ _ _ _ _ _ _ _ (by have := Hne.out; omega)) (by rw [setW4_size]; exact HR8.out.lt)).there⟩
      have Hfin := hid (sp_fin (nums := Node.nums X) (n1 := n0) (b0 := b0) (a2 := a2) (p2 := p2) (nl := nl) (z0 := U (BitVec.ofInt 64 n)) (z1 := .string k1) (z2 := .slice ka2 kn kp2) (z3 := .slice ka3 kk kp3) (k8 := ⟨BitVec.ofInt 64 n, k.bytes, k.nums, k.kids⟩) (HB7.out.setCell (p := ⟨w6.heap.size, 0, none⟩) HwK.out (U (BitVec.ofInt 64 n))) HS8.out hiN (by omega) Hne.out.2.2.2.2.2.2.2.2 Hne.out.2.2.1 Hne.out.2.2.2.2.2.2.2.1 HR8.out (by rw [Hnl.out]; exact Hn.out) Hnl.out (by rw [Hb0.out]; exact hbs) (by rw [Hnl.out]; exact hnm) (by
        intro W hW hWk
        exact sp_k0 (Hk0.out) (Hrd.out W hW) _
        ))
      go_wp2_with (first
        | (refine wpList_put4 rfl (.tmp 124) (.tmp 123) rfl g (i * 4) (U (BitVec.ofInt 64 n)) (.string k1) (.slice ka2 kn kp2) (.slice ka3 kk kp3) rfl rfl Hth.out rfl rfl rfl rfl ?_; intro ws hws; have ⟨⟨_, e0, e1, e2, e3, _⟩, _⟩ := Hmid.out ws hws.out; clear v3 c0 c1 c2 c3 y0 y1 y2 y3 yf0 yf1 yf2 yf3 v7 q0 q2 q3 q4 ef0 ef3 hw7)
        | (refine wpList_put4 rfl (.tmp 4) (.tmp 125) rfl w2.heap.size 0 (U (n0)) (.string b0) (.slice a2 nl p2) (.slice (some ⟨g, 0, none⟩) N c) rfl rfl (Hmid.out ws hws.out).2 rfl rfl rfl rfl ?_; intro w9 hw9; clear e0 e1 e2 e3))
      (try simp only [Exit.inBlock, Exit.then])
      have hf := Hfin.out
      rw [← hws.out, show setR ws w2.heap.size (U (n0)) (.string b0) (.slice a2 nl p2) (.slice (some ⟨g, 0, none⟩) N c) = w9 from hw9.out.symm] at hf
      have ⟨⟨_, r0, r1, r2, r3, _⟩, ⟨X9, hX9n, hX9⟩, hB9⟩ := hf
      refine bodyPost_ret (by simp [results, Tryd.results11, go_sem, r0, r1, r2, r3]; try rfl) rfl ?_
      exact ⟨_, _, _, _, X9, rfl, ⟨hX9n.1.trans Hb0.out, hX9n.2⟩, hX9, hB9⟩
    · have hc : how % 8 = 1 := hc1
      have Hth := hid (show World.there (w7.setCell ⟨w6.heap.size, 1, none⟩ (.string SX)) g (i * 4) 4 from sp_there Hth7.out Hne.out.1.symm)
      have HS8 : Hid (SpV (RdF d) w0 (w7.setCell ⟨w6.heap.size, 1, none⟩ (.string SX)) w3.heap.size g N c xs (Node.kids X)) := hid (HS7.out.keep (Below.heap_setCell _ _ _ _ Hne.out.1))
      have HR8 : Hid (TB (w7.setCell ⟨w6.heap.size, 1, none⟩ (.string SX)) w2.heap.size (.int .u64 0) (.string ⟨#[]⟩) (.slice none 0 0) (.slice none 0 0)) := hid (HR7.out.far (Hne.out.2.2.2.2.2.2.1) (.string SX))
      have HV8 : Hid (TB (w7.setCell ⟨w6.heap.size, 1, none⟩ (.string SX)) w.heap.size (U (n0)) (.string b0) (.slice a2 nl p2) (.slice (some ⟨g, 0, none⟩) N c)) := hid (HV7.out.far (Hne.out.2.2.2.2.1) (.string SX))
      have Hmid := hid fun (ws : World) (hws : ws = setW4 (w7.setCell ⟨w6.heap.size, 1, none⟩ (.string SX)) g (i * 4) (U k0) (.string SX) (.slice ka2 kn kp2) (.slice ka3 kk kp3)) => show TB ws w.heap.size (U (n0)) (.string b0) (.slice a2 nl p2) (.slice (some ⟨g, 0, none⟩) N c) ∧ ws.there w2.heap.size 0 4 from by
        subst hws
        exact ⟨HV8.out.of_block (setW4_far _ _ _ _ _ _ _ _ (by have := Hne.out; omega)) (by rw [setW4_size]; exact HV8.out.lt), (HR8.out.of_block (setW4_far _ _ _ _ _ _ _ _ (by have := Hne.out; omega)) (by rw [setW4_size]; exact HR8.out.lt)).there⟩
      have Hfin := hid (sp_fin (nums := Node.nums X) (n1 := n0) (b0 := b0) (a2 := a2) (p2 := p2) (nl := nl) (z0 := U k0) (z1 := .string SX) (z2 := .slice ka2 kn kp2) (z3 := .slice ka3 kk kp3) (k8 := ⟨k.num, SX, k.nums, k.kids⟩) (HB7.out.setCell (p := ⟨w6.heap.size, 1, none⟩) HwK.out (.string SX)) HS8.out hiN (by omega) Hne.out.2.2.2.2.2.2.2.2 Hne.out.2.2.1 Hne.out.2.2.2.2.2.2.2.1 HR8.out (by rw [Hnl.out]; exact Hn.out) Hnl.out (by rw [Hb0.out]; exact hbs) (by rw [Hnl.out]; exact hnm) (by
        intro W hW hWk
        exact sp_k1 (Hk0.out) (Hrd.out W hW) _ hSS
        ))
      go_wp2_with (first
        | (refine wpList_put4 rfl (.tmp 124) (.tmp 123) rfl g (i * 4) (U k0) (.string SX) (.slice ka2 kn kp2) (.slice ka3 kk kp3) rfl rfl Hth.out rfl rfl rfl rfl ?_; intro ws hws; have ⟨⟨_, e0, e1, e2, e3, _⟩, _⟩ := Hmid.out ws hws.out; clear v3 c0 c1 c2 c3 y0 y1 y2 y3 yf0 yf1 yf2 yf3 v7 q0 q2 q3 q4 ef0 ef3 hw7)
        | (refine wpList_put4 rfl (.tmp 4) (.tmp 125) rfl w2.heap.size 0 (U (n0)) (.string b0) (.slice a2 nl p2) (.slice (some ⟨g, 0, none⟩) N c) rfl rfl (Hmid.out ws hws.out).2 rfl rfl rfl rfl ?_; intro w9 hw9; clear e0 e1 e2 e3))
      (try simp only [Exit.inBlock, Exit.then])
      have hf := Hfin.out
      rw [← hws.out, show setR ws w2.heap.size (U (n0)) (.string b0) (.slice a2 nl p2) (.slice (some ⟨g, 0, none⟩) N c) = w9 from hw9.out.symm] at hf
      have ⟨⟨_, r0, r1, r2, r3, _⟩, ⟨X9, hX9n, hX9⟩, hB9⟩ := hf
      refine bodyPost_ret (by simp [results, Tryd.results11, go_sem, r0, r1, r2, r3]; try rfl) rfl ?_
      exact ⟨_, _, _, _, X9, rfl, ⟨hX9n.1.trans Hb0.out, hX9n.2⟩, hX9, hB9⟩
    · have hc : how % 8 = 2 := hc2
      obtain ⟨q, hq⟩ : ∃ q : Nat, n % 16 = (q : Int) := ⟨(n % 16).toNat, by omega⟩
      have hq16 : q < 16 := by omega
      go_wp2_with (first
        | ((
           refine wpList_make_full _ rfl (.tmp 90) (.tmp 90) 31 rfl w7.heap.size 30 iU _ 1 Tryd.underlying31 hiU hzU hsU .i64 .i64 (q : Int) (q : Int) q rfl rfl rfl rfl (by rw [hbU]; omega) (by unfold maxLen; omega) (Nat.le_refl _) ?_
           intro wm hom hgm
           rw [zeros_made] at hom
           have hbm : Below w7.heap.size w7 wm := (Below.refl _ w7).grown hgm (Nat.le_refl _) (fun q e => by cases e)
           have ⟨_, u0, u1, u2, u3, uf⟩ := hK.below hbm
           have uf2 := uf 2
           have vm := (HV7.out.below hbm).c3
           have Hth := hid (show World.there (wm.setCell ⟨w6.heap.size, 2, none⟩ (.slice (some ⟨w7.heap.size, 0, none⟩) q q)) g (i * 4) 4 from sp_there (there_block Hth7.out (hbm.block g HS7.out.lt.1)) Hne.out.1.symm)
           have HS8 : Hid (SpV (RdF d) w0 (wm.setCell ⟨w6.heap.size, 2, none⟩ (.slice (some ⟨w7.heap.size, 0, none⟩) q q)) w3.heap.size g N c xs (Node.kids X)) := hid ((HS7.out.keep (W' := wm) (hbm.block g HS7.out.lt.1)).keep (Below.heap_setCell _ _ _ _ Hne.out.1))
           have HR8 : Hid (TB (wm.setCell ⟨w6.heap.size, 2, none⟩ (.slice (some ⟨w7.heap.size, 0, none⟩) q q)) w2.heap.size (.int .u64 0) (.string ⟨#[]⟩) (.slice none 0 0) (.slice none 0 0)) := hid ((HR7.out.below hbm).far (Hne.out.2.2.2.2.2.2.1) (.slice (some ⟨w7.heap.size, 0, none⟩) q q))
           have HV8 : Hid (TB (wm.setCell ⟨w6.heap.size, 2, none⟩ (.slice (some ⟨w7.heap.size, 0, none⟩) q q)) w.heap.size (U (n0)) (.string b0) (.slice a2 nl p2) (.slice (some ⟨g, 0, none⟩) N c)) := hid ((HV7.out.below hbm).far (Hne.out.2.2.2.2.1) (.slice (some ⟨w7.heap.size, 0, none⟩) q q))
           have Hmid := hid fun (ws : World) (hws : ws = setW4 (wm.setCell ⟨w6.heap.size, 2, none⟩ (.slice (some ⟨w7.heap.size, 0, none⟩) q q)) g (i * 4) (U k0) (.string k1) (.slice (some ⟨w7.heap.size, 0, none⟩) q q) (.slice ka3 kk kp3)) => show TB ws w.heap.size (U (n0)) (.string b0) (.slice a2 nl p2) (.slice (some ⟨g, 0, none⟩) N c) ∧ ws.there w2.heap.size 0 4 from by
             subst hws
             exact ⟨HV8.out.of_block (setW4_far _ _ _ _ _ _ _ _ (by have := Hne.out; omega)) (by rw [setW4_size]; exact HV8.out.lt), (HR8.out.of_block (setW4_far _ _ _ _ _ _ _ _ (by have := Hne.out; omega)) (by rw [setW4_size]; exact HR8.out.lt)).there⟩
           have Hfin := hid (sp_fin (nums := Node.nums X) (n1 := n0) (b0 := b0) (a2 := a2) (p2 := p2) (nl := nl) (z0 := U k0) (z1 := .string k1) (z2 := .slice (some ⟨w7.heap.size, 0, none⟩) q q) (z3 := .slice ka3 kk kp3) (k8 := ⟨k.num, k.bytes, List.replicate q 0#64, k.kids⟩) ((via HB7.out hbm).setCell (p := ⟨w6.heap.size, 2, none⟩) HwK.out (.slice (some ⟨w7.heap.size, 0, none⟩) q q)) HS8.out hiN (by omega) Hne.out.2.2.2.2.2.2.2.2 Hne.out.2.2.1 Hne.out.2.2.2.2.2.2.2.1 HR8.out (by rw [Hnl.out]; exact Hn.out) Hnl.out (by rw [Hb0.out]; exact hbs) (by rw [Hnl.out]; exact hnm) (by
             intro W hW hWk
             refine sp_k2 (Hk0.out) (Hrd.out W hW) _ (List.replicate q 0#64) (by rw [List.length_replicate]; omega) ?_
             rw [List.length_replicate]
             refine Row.of_owns (own_keep hom (fun b e => ?_))
             obtain rfl : w7.heap.size = b := by simpa [Value.ownBlock] using e
             have h1 := HS7.out.lt
             have h2 := HR7.out.lt
             have h3 := hK.lt
             have h5 := (own_blk hom (g := w7.heap.size) rfl).1.lt
             have h6 := HB7.out.size
             rw [hWk _ (by omega) (by omega) h6 (by simpa [World.setCell] using h5), Below.heap_setCell _ _ _ _ (by show w7.heap.size ≠ w6.heap.size; omega)]
             ))

           clear uf y0 y1 y2 y3 v7))
        | (refine wpList_put4 rfl (.tmp 124) (.tmp 123) rfl g (i * 4) (U k0) (.string k1) (.slice (some ⟨w7.heap.size, 0, none⟩) q q) (.slice ka3 kk kp3) rfl rfl Hth.out rfl rfl rfl rfl ?_; intro ws hws; have ⟨⟨_, e0, e1, e2, e3, _⟩, _⟩ := Hmid.out ws hws.out; clear v3 u0 u1 u2 u3 uf2 c0 c1 c2 c3 vm q0 q2 q3 q4 ef0 ef3 hw7 hq yf0 yf1 yf2 yf3)
        | (refine wpList_put4 rfl (.tmp 4) (.tmp 125) rfl w2.heap.size 0 (U (n0)) (.string b0) (.slice a2 nl p2) (.slice (some ⟨g, 0, none⟩) N c) rfl rfl (Hmid.out ws hws.out).2 rfl rfl rfl rfl ?_; intro w9 hw9; clear e0 e1 e2 e3))
      (try simp only [Exit.inBlock, Exit.then])
      have hf := Hfin.out
      rw [← hws.out, show setR ws w2.heap.size (U (n0)) (.string b0) (.slice a2 nl p2) (.slice (some ⟨g, 0, none⟩) N c) = w9 from hw9.out.symm] at hf
      have ⟨⟨_, r0, r1, r2, r3, _⟩, ⟨X9, hX9n, hX9⟩, hB9⟩ := hf
      refine bodyPost_ret (by simp [results, Tryd.results11, go_sem, r0, r1, r2, r3]; try rfl) rfl ?_
      exact ⟨_, _, _, _, X9, rfl, ⟨hX9n.1.trans Hb0.out, hX9n.2⟩, hX9, hB9⟩
    · have hc : how % 8 = 3 := hc3
      have Hth := hid (show World.there (w7.setCell ⟨w6.heap.size, 3, none⟩ (.slice none 0 0)) g (i * 4) 4 from sp_there Hth7.out Hne.out.1.symm)
      have HS8 : Hid (SpV (RdF d) w0 (w7.setCell ⟨w6.heap.size, 3, none⟩ (.slice none 0 0)) w3.heap.size g N c xs (Node.kids X)) := hid (HS7.out.keep (Below.heap_setCell _ _ _ _ Hne.out.1))
      have HR8 : Hid (TB (w7.setCell ⟨w6.heap.size, 3, none⟩ (.slice none 0 0)) w2.heap.size (.int .u64 0) (.string ⟨#[]⟩) (.slice none 0 0) (.slice none 0 0)) := hid (HR7.out.far (Hne.out.2.2.2.2.2.2.1) (.slice none 0 0))
      have HV8 : Hid (TB (w7.setCell ⟨w6.heap.size, 3, none⟩ (.slice none 0 0)) w.heap.size (U (n0)) (.string b0) (.slice a2 nl p2) (.slice (some ⟨g, 0, none⟩) N c)) := hid (HV7.out.far (Hne.out.2.2.2.2.1) (.slice none 0 0))
      have Hmid := hid fun (ws : World) (hws : ws = setW4 (w7.setCell ⟨w6.heap.size, 3, none⟩ (.slice none 0 0)) g (i * 4) (U k0) (.string k1) (.slice ka2 kn kp2) (.slice none 0 0)) => show TB ws w.heap.size (U (n0)) (.string b0) (.slice a2 nl p2) (.slice (some ⟨g, 0, none⟩) N c) ∧ ws.there w2.heap.size 0 4 from by
        subst hws
        exact ⟨HV8.out.of_block (setW4_far _ _ _ _ _ _ _ _ (by have := Hne.out; omega)) (by rw [setW4_size]; exact HV8.out.lt), (HR8.out.of_block (setW4_far _ _ _ _ _ _ _ _ (by have := Hne.out; omega)) (by rw [setW4_size]; exact HR8.out.lt)).there⟩
      have Hfin := hid (sp_fin (nums := Node.nums X) (n1 := n0) (b0 := b0) (a2 := a2) (p2 := p2) (nl := nl) (z0 := U k0) (z1 := .string k1) (z2 := .slice ka2 kn kp2) (z3 := .slice none 0 0) (k8 := ⟨k.num, k.bytes, k.nums, []⟩) (HB7.out.setCell (p := ⟨w6.heap.size, 3, none⟩) HwK.out (.slice none 0 0)) HS8.out hiN (by omega) Hne.out.2.2.2.2.2.2.2.2 Hne.out.2.2.1 Hne.out.2.2.2.2.2.2.2.1 HR8.out (by rw [Hnl.out]; exact Hn.out) Hnl.out (by rw [Hb0.out]; exact hbs) (by rw [Hnl.out]; exact hnm) (by
        intro W hW hWk
        exact sp_k3 (Hk0.out) (Hrd.out W hW)
        ))
      go_wp2_with (first
        | (refine wpList_put4 rfl (.tmp 124) (.tmp 123) rfl g (i * 4) (U k0) (.string k1) (.slice ka2 kn kp2) (.slice none 0 0) rfl rfl Hth.out rfl rfl rfl rfl ?_; intro ws hws; have ⟨⟨_, e0, e1, e2, e3, _⟩, _⟩ := Hmid.out ws hws.out; clear v3 c0 c1 c2 c3 y0 y1 y2 y3 yf0 yf1 yf2 yf3 v7 q0 q2 q3 q4 ef0 ef3 hw7)
        | (refine wpList_put4 rfl (.tmp 4) (.tmp 125) rfl w2.heap.size 0 (U (n0)) (.string b0) (.slice a2 nl p2) (.slice (some ⟨g, 0, none⟩) N c) rfl rfl (Hmid.out ws hws.out).2 rfl rfl rfl rfl ?_; intro w9 hw9; clear e0 e1 e2 e3))
      (try simp only [Exit.inBlock, Exit.then])
      have hf := Hfin.out
      rw [← hws.out, show setR ws w2.heap.size (U (n0)) (.string b0) (.slice a2 nl p2) (.slice (some ⟨g, 0, none⟩) N c) = w9 from hw9.out.symm] at hf
      have ⟨⟨_, r0, r1, r2, r3, _⟩, ⟨X9, hX9n, hX9⟩, hB9⟩ := hf
      refine bodyPost_ret (by simp [results, Tryd.results11, go_sem, r0, r1, r2, r3]; try rfl) rfl ?_
      exact ⟨_, _, _, _, X9, rfl, ⟨hX9n.1.trans Hb0.out, hX9n.2⟩, hX9, hB9⟩
    · by_cases hkz : kk = 0
      · subst hkz
        have hc : how % 8 = 4 := hc4
        have hb1x : Below w7.heap.size w7 (w7.alloc (.cells #[] 34)) := below_alloc w7 _
        have d4 := (hK.below hb1x).c3
        have uf3 := (hK.below hb1x).fz 3
        have d3 : w7.drew.cell? ⟨w6.heap.size, 3, none⟩ = some (.slice ka3 0 kp3) := y3
        go_wp2_with fail
        refine wp_region_any (by kernel_rfl) ?_
        rw [show ({ w7 with drawn := w7.drawn + 1 } : World) = w7.drew from rfl]
        refine wpAny_take (i := 1) (oi := { dst := some 99, op := Go.Op.fieldAddr 34 (Go.Operand.tmp 6) 3, type := 0, pos := "law.go:65", after := #[], guard := none }) (v := ?v1n4) rfl (by kernel_rfl) (by kernel_rfl) (by kernel_rfl) (fun _ _ _ h => h) (Or.inl ⟨by rfl, ?hy1n4⟩) ?rest1n4
        case hy1n4 => first | (intro w; go_simp; done) | (intro w; go_simp; with_reducible rfl)
        try simp only [Act.put, List.setIfInBounds_toArray, List.set_cons_zero, List.set_cons_succ]
        refine wpAny_take (i := 4) (oi := { dst := some 102, op := Go.Op.fieldAddr 34 (Go.Operand.tmp 6) 3, type := 0, pos := "law.go:65", after := #[], guard := none }) (v := ?v4n5) rfl (by kernel_rfl) (by kernel_rfl) (by kernel_rfl) (fun _ _ _ h => h) (Or.inl ⟨by rfl, ?hy4n5⟩) ?rest4n5
        case hy4n5 => first | (intro w; go_simp; done) | (intro w; go_simp; with_reducible rfl)
        try simp only [Act.put, List.setIfInBounds_toArray, List.set_cons_zero, List.set_cons_succ]
        refine (fun (X025 : ?T1u3) => ?rest3) ?x025u3
        case rest3 =>
          refine (fun (X02 : ?T2u3) => ?main3) ?x02u3
          case main3 =>
            refine wpAny_ready (rs := [0, 2, 5]) (by kernel_rfl) (by simp) ?_
            refine AllReady.cons (o := { dst := some 98, op := Go.Op.buildSlice 32 0 #[], type := 32, pos := "law.go:65", after := #[], guard := none }) rfl (fun Kr hKr => ?_) ?_
            · go_simp
              refine hKr _ _ ?_
              try simp only [Act.put, List.setIfInBounds_toArray, List.set_cons_zero, List.set_cons_succ]
              refine wpAny_ready (rs := [2, 5]) (by kernel_rfl) (by simp) ?_
              refine AllReady.cons (o := { dst := some 100, op := Go.Op.load 32 (Go.Operand.tmp 99), type := 32, pos := "law.go:65", after := #[{ on := 1, ground := Go.Ground.data }], guard := none }) rfl (fun Kr hKr => ?_) ?_
              · go_simp
                refine hKr _ _ ?_
                try simp only [Act.put, List.setIfInBounds_toArray, List.set_cons_zero, List.set_cons_succ]
                exact X02
              refine AllReady.cons (o := { dst := some 103, op := Go.Op.load 32 (Go.Operand.tmp 102), type := 32, pos := "law.go:65", after := #[{ on := 4, ground := Go.Ground.data }], guard := none }) rfl (fun Kr hKr => ?_) AllReady.nil
              go_simp
              refine hKr _ _ ?_
              try simp only [Act.put, List.setIfInBounds_toArray, List.set_cons_zero, List.set_cons_succ]
              refine wpAny_ready (rs := [2]) (by kernel_rfl) (by simp) ?_
              refine AllReady.cons (o := { dst := some 100, op := Go.Op.load 32 (Go.Operand.tmp 99), type := 32, pos := "law.go:65", after := #[{ on := 1, ground := Go.Ground.data }], guard := none }) rfl (fun Kr hKr => ?_) AllReady.nil
              go_simp
              refine hKr _ _ ?_
              try simp only [Act.put, List.setIfInBounds_toArray, List.set_cons_zero, List.set_cons_succ]
              exact X025
            refine AllReady.cons (o := { dst := some 100, op := Go.Op.load 32 (Go.Operand.tmp 99), type := 32, pos := "law.go:65", after := #[{ on := 1, ground := Go.Ground.data }], guard := none }) rfl (fun Kr hKr => ?_) ?_
            · go_simp
              refine hKr _ _ ?_
              try simp only [Act.put, List.setIfInBounds_toArray, List.set_cons_zero, List.set_cons_succ]
              refine wpAny_ready (rs := [0, 5]) (by kernel_rfl) (by simp) ?_
              refine AllReady.cons (o := { dst := some 98, op := Go.Op.buildSlice 32 0 #[], type := 32, pos := "law.go:65", after := #[], guard := none }) rfl (fun Kr hKr => ?_) ?_
              · go_simp
                refine hKr _ _ ?_
                try simp only [Act.put, List.setIfInBounds_toArray, List.set_cons_zero, List.set_cons_succ]
                exact X02
              refine AllReady.cons (o := { dst := some 103, op := Go.Op.load 32 (Go.Operand.tmp 102), type := 32, pos := "law.go:65", after := #[{ on := 4, ground := Go.Ground.data }], guard := none }) rfl (fun Kr hKr => ?_) AllReady.nil
              go_simp
              refine hKr _ _ ?_
              try simp only [Act.put, List.setIfInBounds_toArray, List.set_cons_zero, List.set_cons_succ]
              refine wpAny_ready (rs := [0]) (by kernel_rfl) (by simp) ?_
              refine AllReady.cons (o := { dst := some 98, op := Go.Op.buildSlice 32 0 #[], type := 32, pos := "law.go:65", after := #[], guard := none }) rfl (fun Kr hKr => ?_) AllReady.nil
              go_simp
              refine hKr _ _ ?_
              try simp only [Act.put, List.setIfInBounds_toArray, List.set_cons_zero, List.set_cons_succ]
              exact X025
            refine AllReady.cons (o := { dst := some 103, op := Go.Op.load 32 (Go.Operand.tmp 102), type := 32, pos := "law.go:65", after := #[{ on := 4, ground := Go.Ground.data }], guard := none }) rfl (fun Kr hKr => ?_) AllReady.nil
            go_simp
            refine hKr _ _ ?_
            try simp only [Act.put, List.setIfInBounds_toArray, List.set_cons_zero, List.set_cons_succ]
            refine wpAny_ready (rs := [0, 2]) (by kernel_rfl) (by simp) ?_
            refine AllReady.cons (o := { dst := some 98, op := Go.Op.buildSlice 32 0 #[], type := 32, pos := "law.go:65", after := #[], guard := none }) rfl (fun Kr hKr => ?_) ?_
            · go_simp
              refine hKr _ _ ?_
              try simp only [Act.put, List.setIfInBounds_toArray, List.set_cons_zero, List.set_cons_succ]
              refine wpAny_ready (rs := [2]) (by kernel_rfl) (by simp) ?_
              refine AllReady.cons (o := { dst := some 100, op := Go.Op.load 32 (Go.Operand.tmp 99), type := 32, pos := "law.go:65", after := #[{ on := 1, ground := Go.Ground.data }], guard := none }) rfl (fun Kr hKr => ?_) AllReady.nil
              go_simp
              refine hKr _ _ ?_
              try simp only [Act.put, List.setIfInBounds_toArray, List.set_cons_zero, List.set_cons_succ]
              exact X025
            refine AllReady.cons (o := { dst := some 100, op := Go.Op.load 32 (Go.Operand.tmp 99), type := 32, pos := "law.go:65", after := #[{ on := 1, ground := Go.Ground.data }], guard := none }) rfl (fun Kr hKr => ?_) AllReady.nil
            go_simp
            refine hKr _ _ ?_
            try simp only [Act.put, List.setIfInBounds_toArray, List.set_cons_zero, List.set_cons_succ]
            refine wpAny_ready (rs := [0]) (by kernel_rfl) (by simp) ?_
            refine AllReady.cons (o := { dst := some 98, op := Go.Op.buildSlice 32 0 #[], type := 32, pos := "law.go:65", after := #[], guard := none }) rfl (fun Kr hKr => ?_) AllReady.nil
            go_simp
            refine hKr _ _ ?_
            try simp only [Act.put, List.setIfInBounds_toArray, List.set_cons_zero, List.set_cons_succ]
            exact X025
          case x02u3 =>
            refine wpAny_ready (rs := [3, 5]) (by kernel_rfl) (by simp) ?_
            refine AllReady.cons (o := { dst := some 101, op := Go.Op.call { callee := Go.Callee.builtin Go.Builtin.append, args := #[Go.Operand.tmp 98, Go.Operand.tmp 100], argTypes := #[32, 32] }, type := 32, pos := "law.go:65", after := #[{ on := 0, ground := Go.Ground.data }, { on := 2, ground := Go.Ground.data }], guard := none }) rfl (fun Kr hKr => ?_) ?_
            · refine wp_app0 (.tmp 98) (.tmp 100) 32 rfl 34 iT Tryd.underlying32 hiT ⟨w7.heap.size, 0, none⟩ ka3 kp3 rfl rfl ?_
              refine hKr _ _ ?_
              try simp only [Act.put, List.setIfInBounds_toArray, List.set_cons_zero, List.set_cons_succ]
              refine wpAny_ready (rs := [5]) (by kernel_rfl) (by simp) ?_
              refine AllReady.cons (o := { dst := some 103, op := Go.Op.load 32 (Go.Operand.tmp 102), type := 32, pos := "law.go:65", after := #[{ on := 4, ground := Go.Ground.data }], guard := none }) rfl (fun Kr hKr => ?_) AllReady.nil
              go_simp
              refine hKr _ _ ?_
              try simp only [Act.put, List.setIfInBounds_toArray, List.set_cons_zero, List.set_cons_succ]
              refine wpAny_ready (rs := [6]) (by kernel_rfl) (by simp) ?_
              refine AllReady.cons (o := { dst := some 104, op := Go.Op.call { callee := Go.Callee.builtin Go.Builtin.append, args := #[Go.Operand.tmp 101, Go.Operand.tmp 103], argTypes := #[32, 32] }, type := 32, pos := "law.go:65", after := #[{ on := 3, ground := Go.Ground.data }, { on := 5, ground := Go.Ground.data }, { on := 3, ground := Go.Ground.chain }], guard := none }) rfl (fun Kr hKr => ?_) AllReady.nil
              refine wp_app0 (.tmp 101) (.tmp 103) 32 rfl 34 iT Tryd.underlying32 hiT ⟨w7.heap.size, 0, none⟩ ka3 kp3 rfl rfl ?_
              refine hKr _ _ ?_
              try simp only [Act.put, List.setIfInBounds_toArray, List.set_cons_zero, List.set_cons_succ]
              refine wpAny_take (i := 7) (oi := { dst := some 105, op := Go.Op.fieldAddr 34 (Go.Operand.tmp 6) 3, type := 0, pos := "law.go:65", after := #[{ on := 0, ground := Go.Ground.phase }, { on := 1, ground := Go.Ground.phase }, { on := 2, ground := Go.Ground.phase }, { on := 3, ground := Go.Ground.phase }, { on := 4, ground := Go.Ground.phase }, { on := 5, ground := Go.Ground.phase }, { on := 6, ground := Go.Ground.phase }], guard := none }) (v := ?v7n1) rfl (by kernel_rfl) (by kernel_rfl) (by kernel_rfl) (fun _ _ _ h => h) (Or.inl ⟨by rfl, ?hy7n1⟩) ?rest7n1
              case hy7n1 => first | (intro w; go_simp; done) | (intro w; go_simp; with_reducible rfl)
              try simp only [Act.put, List.setIfInBounds_toArray, List.set_cons_zero, List.set_cons_succ]
              refine wpAny_ready (rs := [8]) (by kernel_rfl) (by simp) ?_
              refine AllReady.cons (o := { dst := none, op := Go.Op.store 32 (Go.Operand.tmp 105) (Go.Operand.tmp 104), type := 0, pos := "law.go:65", after := #[{ on := 7, ground := Go.Ground.data }, { on := 6, ground := Go.Ground.data }, { on := 6, ground := Go.Ground.chain }, { on := 0, ground := Go.Ground.phase }, { on := 1, ground := Go.Ground.phase }, { on := 2, ground := Go.Ground.phase }, { on := 3, ground := Go.Ground.phase }, { on := 4, ground := Go.Ground.phase }, { on := 5, ground := Go.Ground.phase }, { on := 6, ground := Go.Ground.phase }], guard := none }) rfl (fun Kr hKr => ?_) AllReady.nil
              go_simp
              refine hKr _ _ ?_
              try simp only [Act.put, List.setIfInBounds_toArray, List.set_cons_zero, List.set_cons_succ]
              refine wpAny_done (by kernel_rfl) ?_ _
              obtain ⟨w8, hw8⟩ : ∃ w8, w8 = ((w7.alloc (.cells #[] 34)).setCell ⟨w6.heap.size, 3, none⟩ (.slice (some ⟨w7.heap.size, 0, none⟩) 0 0)).drew := ⟨_, rfl⟩
              rw [← hw8]
              have HB8 : Hid (Below w.heap.size w w8) := hid (by rw [hw8]; exact ((via HB7.out hb1x).setCell (p := ⟨w6.heap.size, 3, none⟩) HwK.out (.slice (some ⟨w7.heap.size, 0, none⟩) 0 0)).trans (below_drewN _ _ 1))
              have HV8a : Hid (TB w8 w.heap.size (U n0) (.string b0) (.slice a2 nl p2) (.slice (some ⟨g, 0, none⟩) N c)) := hid (by rw [hw8]; exact ((HV7.out.below hb1x).far (o := 3) (Hne.out.2.2.2.2.1) (.slice (some ⟨w7.heap.size, 0, none⟩) 0 0)).of_block rfl ((HV7.out.below hb1x).far (o := 3) (Hne.out.2.2.2.2.1) (.slice (some ⟨w7.heap.size, 0, none⟩) 0 0)).lt)
              have HR8a : Hid (TB w8 w2.heap.size (.int .u64 0) (.string ⟨#[]⟩) (.slice none 0 0) (.slice none 0 0)) := hid (by rw [hw8]; exact ((HR7.out.below hb1x).far (o := 3) (Hne.out.2.2.2.2.2.2.1) (.slice (some ⟨w7.heap.size, 0, none⟩) 0 0)).of_block rfl ((HR7.out.below hb1x).far (o := 3) (Hne.out.2.2.2.2.2.2.1) (.slice (some ⟨w7.heap.size, 0, none⟩) 0 0)).lt)
              have HS8a : Hid (SpV (RdF d) w0 w8 w3.heap.size g N c xs (Node.kids X)) := hid (by rw [hw8]; exact ((HS7.out.keep (W' := (w7.alloc (.cells #[] 34))) (hb1x.block g HS7.out.lt.1)).keep (W' := (w7.alloc (.cells #[] 34)).setCell ⟨w6.heap.size, 3, none⟩ (.slice (some ⟨w7.heap.size, 0, none⟩) 0 0)) (Below.heap_setCell _ _ _ _ Hne.out.1)).keep rfl)
              have hK8 : TB w8 w6.heap.size (U k0) (.string k1) (.slice ka2 kn kp2) (.slice (some ⟨w7.heap.size, 0, none⟩) 0 0) := by rw [hw8]; exact ((hK.below hb1x).set3 (.slice (some ⟨w7.heap.size, 0, none⟩) 0 0)).of_block rfl ((hK.below hb1x).set3 (.slice (some ⟨w7.heap.size, 0, none⟩) 0 0)).lt
              have Hw8 := hid hw8
              clear hw8
              have ⟨_, u0, u1, u2, u3, _⟩ := hK8
              have vm := HV8a.out.c3
              clear y0 y1 y2 y3 v7 uf3 d3 d4 
              have Hth := hid (show World.there (w8) g (i * 4) 4 from HS8a.out.there hiN)
              have HS8 : Hid (SpV (RdF d) w0 (w8) w3.heap.size g N c xs (Node.kids X)) := hid (HS8a.out)
              have HR8 : Hid (TB (w8) w2.heap.size (.int .u64 0) (.string ⟨#[]⟩) (.slice none 0 0) (.slice none 0 0)) := hid (HR8a.out)
              have HV8 : Hid (TB (w8) w.heap.size (U (n0)) (.string b0) (.slice a2 nl p2) (.slice (some ⟨g, 0, none⟩) N c)) := hid (HV8a.out)
              have Hmid := hid fun (ws : World) (hws : ws = setW4 (w8) g (i * 4) (U k0) (.string k1) (.slice ka2 kn kp2) (.slice (some ⟨w7.heap.size, 0, none⟩) 0 0)) => show TB ws w.heap.size (U (n0)) (.string b0) (.slice a2 nl p2) (.slice (some ⟨g, 0, none⟩) N c) ∧ ws.there w2.heap.size 0 4 from by
                subst hws
                exact ⟨HV8.out.of_block (setW4_far _ _ _ _ _ _ _ _ (by have := Hne.out; omega)) (by rw [setW4_size]; exact HV8.out.lt), (HR8.out.of_block (setW4_far _ _ _ _ _ _ _ _ (by have := Hne.out; omega)) (by rw [setW4_size]; exact HR8.out.lt)).there⟩
              have Hfin := hid (sp_fin (nums := Node.nums X) (n1 := n0) (b0 := b0) (a2 := a2) (p2 := p2) (nl := nl) (z0 := U k0) (z1 := .string k1) (z2 := .slice ka2 kn kp2) (z3 := .slice (some ⟨w7.heap.size, 0, none⟩) 0 0) (k8 := ⟨k.num, k.bytes, k.nums, []⟩) (HB8.out) HS8.out hiN (by omega) Hne.out.2.2.2.2.2.2.2.2 Hne.out.2.2.1 Hne.out.2.2.2.2.2.2.2.1 HR8.out (by rw [Hnl.out]; exact Hn.out) Hnl.out (by rw [Hb0.out]; exact hbs) (by rw [Hnl.out]; exact hnm) (by
                intro W hW hWk
                exact sp_kk (Hk0.out) (Hrd.out W hW) _ [] (by simp) ⟨[], ⟨by simp, by simp, some ⟨w7.heap.size, 0, none⟩, 0, rfl, Nat.le_refl _, Nat.zero_le _, (fun h => by cases h), fun h => absurd h (Nat.lt_irrefl 0)⟩, fun i k h => by simp at h⟩
                ))
              go_wp2_with (first
                | (refine wpList_put4 rfl (.tmp 124) (.tmp 123) rfl g (i * 4) (U k0) (.string k1) (.slice ka2 kn kp2) (.slice (some ⟨w7.heap.size, 0, none⟩) 0 0) rfl rfl Hth.out rfl rfl rfl rfl ?_; intro ws hws; have ⟨⟨_, e0, e1, e2, e3, _⟩, _⟩ := Hmid.out ws hws.out; clear v3 u0 u1 u2 u3 vm c0 c1 c2 q0 q2 q3 q4 ef0 ef3 hw7 yf0 yf1 yf2 yf3)
                | (refine wpList_put4 rfl (.tmp 4) (.tmp 125) rfl w2.heap.size 0 (U (n0)) (.string b0) (.slice a2 nl p2) (.slice (some ⟨g, 0, none⟩) N c) rfl rfl (Hmid.out ws hws.out).2 rfl rfl rfl rfl ?_; intro w9 hw9; clear e0 e1 e2 e3))
              (try simp only [Exit.inBlock, Exit.then])
              have hf := Hfin.out
              rw [← hws.out, show setR ws w2.heap.size (U (n0)) (.string b0) (.slice a2 nl p2) (.slice (some ⟨g, 0, none⟩) N c) = w9 from hw9.out.symm] at hf
              have ⟨⟨_, r0, r1, r2, r3, _⟩, ⟨X9, hX9n, hX9⟩, hB9⟩ := hf
              refine bodyPost_ret (by simp [results, Tryd.results11, go_sem, r0, r1, r2, r3]; try rfl) rfl ?_
              exact ⟨_, _, _, _, X9, rfl, ⟨hX9n.1.trans Hb0.out, hX9n.2⟩, hX9, hB9⟩
            refine AllReady.cons (o := { dst := some 103, op := Go.Op.load 32 (Go.Operand.tmp 102), type := 32, pos := "law.go:65", after := #[{ on := 4, ground := Go.Ground.data }], guard := none }) rfl (fun Kr hKr => ?_) AllReady.nil
            go_simp
            refine hKr _ _ ?_
            try simp only [Act.put, List.setIfInBounds_toArray, List.set_cons_zero, List.set_cons_succ]
            exact X025
        case x025u3 =>
          refine wpAny_ready (rs := [3]) (by kernel_rfl) (by simp) ?_
          refine AllReady.cons (o := { dst := some 101, op := Go.Op.call { callee := Go.Callee.builtin Go.Builtin.append, args := #[Go.Operand.tmp 98, Go.Operand.tmp 100], argTypes := #[32, 32] }, type := 32, pos := "law.go:65", after := #[{ on := 0, ground := Go.Ground.data }, { on := 2, ground := Go.Ground.data }], guard := none }) rfl (fun Kr hKr => ?_) AllReady.nil
          refine wp_app0 (.tmp 98) (.tmp 100) 32 rfl 34 iT Tryd.underlying32 hiT ⟨w7.heap.size, 0, none⟩ ka3 kp3 rfl rfl ?_
          refine hKr _ _ ?_
          try simp only [Act.put, List.setIfInBounds_toArray, List.set_cons_zero, List.set_cons_succ]
          refine wpAny_ready (rs := [6]) (by kernel_rfl) (by simp) ?_
          refine AllReady.cons (o := { dst := some 104, op := Go.Op.call { callee := Go.Callee.builtin Go.Builtin.append, args := #[Go.Operand.tmp 101, Go.Operand.tmp 103], argTypes := #[32, 32] }, type := 32, pos := "law.go:65", after := #[{ on := 3, ground := Go.Ground.data }, { on := 5, ground := Go.Ground.data }, { on := 3, ground := Go.Ground.chain }], guard := none }) rfl (fun Kr hKr => ?_) AllReady.nil
          refine wp_app0 (.tmp 101) (.tmp 103) 32 rfl 34 iT Tryd.underlying32 hiT ⟨w7.heap.size, 0, none⟩ ka3 kp3 rfl rfl ?_
          refine hKr _ _ ?_
          try simp only [Act.put, List.setIfInBounds_toArray, List.set_cons_zero, List.set_cons_succ]
          refine wpAny_take (i := 7) (oi := { dst := some 105, op := Go.Op.fieldAddr 34 (Go.Operand.tmp 6) 3, type := 0, pos := "law.go:65", after := #[{ on := 0, ground := Go.Ground.phase }, { on := 1, ground := Go.Ground.phase }, { on := 2, ground := Go.Ground.phase }, { on := 3, ground := Go.Ground.phase }, { on := 4, ground := Go.Ground.phase }, { on := 5, ground := Go.Ground.phase }, { on := 6, ground := Go.Ground.phase }], guard := none }) (v := ?v7n2) rfl (by kernel_rfl) (by kernel_rfl) (by kernel_rfl) (fun _ _ _ h => h) (Or.inl ⟨by rfl, ?hy7n2⟩) ?rest7n2
          case hy7n2 => first | (intro w; go_simp; done) | (intro w; go_simp; with_reducible rfl)
          try simp only [Act.put, List.setIfInBounds_toArray, List.set_cons_zero, List.set_cons_succ]
          refine wpAny_ready (rs := [8]) (by kernel_rfl) (by simp) ?_
          refine AllReady.cons (o := { dst := none, op := Go.Op.store 32 (Go.Operand.tmp 105) (Go.Operand.tmp 104), type := 0, pos := "law.go:65", after := #[{ on := 7, ground := Go.Ground.data }, { on := 6, ground := Go.Ground.data }, { on := 6, ground := Go.Ground.chain }, { on := 0, ground := Go.Ground.phase }, { on := 1, ground := Go.Ground.phase }, { on := 2, ground := Go.Ground.phase }, { on := 3, ground := Go.Ground.phase }, { on := 4, ground := Go.Ground.phase }, { on := 5, ground := Go.Ground.phase }, { on := 6, ground := Go.Ground.phase }], guard := none }) rfl (fun Kr hKr => ?_) AllReady.nil
          go_simp
          refine hKr _ _ ?_
          try simp only [Act.put, List.setIfInBounds_toArray, List.set_cons_zero, List.set_cons_succ]
          refine wpAny_done (by kernel_rfl) ?_ _
          obtain ⟨w8, hw8⟩ : ∃ w8, w8 = ((w7.alloc (.cells #[] 34)).setCell ⟨w6.heap.size, 3, none⟩ (.slice (some ⟨w7.heap.size, 0, none⟩) 0 0)).drew := ⟨_, rfl⟩
          rw [← hw8]
          have HB8 : Hid (Below w.heap.size w w8) := hid (by rw [hw8]; exact ((via HB7.out hb1x).setCell (p := ⟨w6.heap.size, 3, none⟩) HwK.out (.slice (some ⟨w7.heap.size, 0, none⟩) 0 0)).trans (below_drewN _ _ 1))
          have HV8a : Hid (TB w8 w.heap.size (U n0) (.string b0) (.slice a2 nl p2) (.slice (some ⟨g, 0, none⟩) N c)) := hid (by rw [hw8]; exact ((HV7.out.below hb1x).far (o := 3) (Hne.out.2.2.2.2.1) (.slice (some ⟨w7.heap.size, 0, none⟩) 0 0)).of_block rfl ((HV7.out.below hb1x).far (o := 3) (Hne.out.2.2.2.2.1) (.slice (some ⟨w7.heap.size, 0, none⟩) 0 0)).lt)
          have HR8a : Hid (TB w8 w2.heap.size (.int .u64 0) (.string ⟨#[]⟩) (.slice none 0 0) (.slice none 0 0)) := hid (by rw [hw8]; exact ((HR7.out.below hb1x).far (o := 3) (Hne.out.2.2.2.2.2.2.1) (.slice (some ⟨w7.heap.size, 0, none⟩) 0 0)).of_block rfl ((HR7.out.below hb1x).far (o := 3) (Hne.out.2.2.2.2.2.2.1) (.slice (some ⟨w7.heap.size, 0, none⟩) 0 0)).lt)
          have HS8a : Hid (SpV (RdF d) w0 w8 w3.heap.size g N c xs (Node.kids X)) := hid (by rw [hw8]; exact ((HS7.out.keep (W' := (w7.alloc (.cells #[] 34))) (hb1x.block g HS7.out.lt.1)).keep (W' := (w7.alloc (.cells #[] 34)).setCell ⟨w6.heap.size, 3, none⟩ (.slice (some ⟨w7.heap.size, 0, none⟩) 0 0)) (Below.heap_setCell _ _ _ _ Hne.out.1)).keep rfl)
          have hK8 : TB w8 w6.heap.size (U k0) (.string k1) (.slice ka2 kn kp2) (.slice (some ⟨w7.heap.size, 0, none⟩) 0 0) := by rw [hw8]; exact ((hK.below hb1x).set3 (.slice (some ⟨w7.heap.size, 0, none⟩) 0 0)).of_block rfl ((hK.below hb1x).set3 (.slice (some ⟨w7.heap.size, 0, none⟩) 0 0)).lt
          have Hw8 := hid hw8
          clear hw8
          have ⟨_, u0, u1, u2, u3, _⟩ := hK8
          have vm := HV8a.out.c3
          clear y0 y1 y2 y3 v7 uf3 d3 d4 
          have Hth := hid (show World.there (w8) g (i * 4) 4 from HS8a.out.there hiN)
          have HS8 : Hid (SpV (RdF d) w0 (w8) w3.heap.size g N c xs (Node.kids X)) := hid (HS8a.out)
          have HR8 : Hid (TB (w8) w2.heap.size (.int .u64 0) (.string ⟨#[]⟩) (.slice none 0 0) (.slice none 0 0)) := hid (HR8a.out)
          have HV8 : Hid (TB (w8) w.heap.size (U (n0)) (.string b0) (.slice a2 nl p2) (.slice (some ⟨g, 0, none⟩) N c)) := hid (HV8a.out)
          have Hmid := hid fun (ws : World) (hws : ws = setW4 (w8) g (i * 4) (U k0) (.string k1) (.slice ka2 kn kp2) (.slice (some ⟨w7.heap.size, 0, none⟩) 0 0)) => show TB ws w.heap.size (U (n0)) (.string b0) (.slice a2 nl p2) (.slice (some ⟨g, 0, none⟩) N c) ∧ ws.there w2.heap.size 0 4 from by
            subst hws
            exact ⟨HV8.out.of_block (setW4_far _ _ _ _ _ _ _ _ (by have := Hne.out; omega)) (by rw [setW4_size]; exact HV8.out.lt), (HR8.out.of_block (setW4_far _ _ _ _ _ _ _ _ (by have := Hne.out; omega)) (by rw [setW4_size]; exact HR8.out.lt)).there⟩
          have Hfin := hid (sp_fin (nums := Node.nums X) (n1 := n0) (b0 := b0) (a2 := a2) (p2 := p2) (nl := nl) (z0 := U k0) (z1 := .string k1) (z2 := .slice ka2 kn kp2) (z3 := .slice (some ⟨w7.heap.size, 0, none⟩) 0 0) (k8 := ⟨k.num, k.bytes, k.nums, []⟩) (HB8.out) HS8.out hiN (by omega) Hne.out.2.2.2.2.2.2.2.2 Hne.out.2.2.1 Hne.out.2.2.2.2.2.2.2.1 HR8.out (by rw [Hnl.out]; exact Hn.out) Hnl.out (by rw [Hb0.out]; exact hbs) (by rw [Hnl.out]; exact hnm) (by
            intro W hW hWk
            exact sp_kk (Hk0.out) (Hrd.out W hW) _ [] (by simp) ⟨[], ⟨by simp, by simp, some ⟨w7.heap.size, 0, none⟩, 0, rfl, Nat.le_refl _, Nat.zero_le _, (fun h => by cases h), fun h => absurd h (Nat.lt_irrefl 0)⟩, fun i k h => by simp at h⟩
            ))
          go_wp2_with (first
            | (refine wpList_put4 rfl (.tmp 124) (.tmp 123) rfl g (i * 4) (U k0) (.string k1) (.slice ka2 kn kp2) (.slice (some ⟨w7.heap.size, 0, none⟩) 0 0) rfl rfl Hth.out rfl rfl rfl rfl ?_; intro ws hws; have ⟨⟨_, e0, e1, e2, e3, _⟩, _⟩ := Hmid.out ws hws.out; clear v3 u0 u1 u2 u3 vm c0 c1 c2 q0 q2 q3 q4 ef0 ef3 hw7 yf0 yf1 yf2 yf3)
            | (refine wpList_put4 rfl (.tmp 4) (.tmp 125) rfl w2.heap.size 0 (U (n0)) (.string b0) (.slice a2 nl p2) (.slice (some ⟨g, 0, none⟩) N c) rfl rfl (Hmid.out ws hws.out).2 rfl rfl rfl rfl ?_; intro w9 hw9; clear e0 e1 e2 e3))
          (try simp only [Exit.inBlock, Exit.then])
          have hf := Hfin.out
          rw [← hws.out, show setR ws w2.heap.size (U (n0)) (.string b0) (.slice a2 nl p2) (.slice (some ⟨g, 0, none⟩) N c) = w9 from hw9.out.symm] at hf
          have ⟨⟨_, r0, r1, r2, r3, _⟩, ⟨X9, hX9n, hX9⟩, hB9⟩ := hf
          refine bodyPost_ret (by simp [results, Tryd.results11, go_sem, r0, r1, r2, r3]; try rfl) rfl ?_
          exact ⟨_, _, _, _, X9, rfl, ⟨hX9n.1.trans Hb0.out, hX9n.2⟩, hX9, hB9⟩
      · obtain ⟨ys, hyr, hyk⟩ := Hkk.out.ex
        have e2 := (Hk0.out).2.2.2
        rw [← e2] at hyr
        obtain ⟨b2, o2, cap2, he2, _, _, hb2lt, hyc⟩ := hyr.cons (by omega)
        have hka : Hid (ka3 = some ⟨b2, o2, none⟩) := hid (by simp only [Value.slice.injEq] at he2; exact he2.1)
        have hyl : ys.length = kk * 4 := hyr.len
        have hys := hid (show ys.length = kk * 4 ∧ (∀ u ∈ ys, u.oneCell' = true) ∧ ∀ W, Below w0.heap.size w0 W → ∀ (j : Nat) (u : Value), ys[j]? = some u → W.cell? ((⟨b2, o2, none⟩ : Addr).add j) = some u from ⟨hyl, kids_one (by rw [← e2]; exact hyl) hyk, fun W hW j u e => by
          have hj : j < kk * 4 := by have := (List.getElem?_eq_some_iff.1 e).1; omega
          rw [Addr.add_lit, hW.cell (p := ⟨b2, o2 + j, none⟩) hb2lt, hyc j hj]; exact e⟩)
        have Hyk := hid hyk
        clear hyr hyk e2 he2 hyc hyl
        have hc : how % 8 = 4 := hc4
        have hb1x : Below w7.heap.size w7 (w7.alloc (.cells #[] 34)) := below_alloc w7 _
        have d4 := (hK.below hb1x).c3
        have uf3 := (hK.below hb1x).fz 3
        have d3 : w7.drew.cell? ⟨w6.heap.size, 3, none⟩ = some (.slice ka3 kk kp3) := y3
        go_wp2_with fail
        refine wp_region_any (by kernel_rfl) ?_
        rw [show ({ w7 with drawn := w7.drawn + 1 } : World) = w7.drew from rfl]
        refine wpAny_take (i := 1) (oi := { dst := some 99, op := Go.Op.fieldAddr 34 (Go.Operand.tmp 6) 3, type := 0, pos := "law.go:65", after := #[], guard := none }) (v := ?v1n9) rfl (by kernel_rfl) (by kernel_rfl) (by kernel_rfl) (fun _ _ _ h => h) (Or.inl ⟨by rfl, ?hy1n9⟩) ?rest1n9
        case hy1n9 => first | (intro w; go_simp; done) | (intro w; go_simp; with_reducible rfl)
        try simp only [Act.put, List.setIfInBounds_toArray, List.set_cons_zero, List.set_cons_succ]
        refine wpAny_take (i := 4) (oi := { dst := some 102, op := Go.Op.fieldAddr 34 (Go.Operand.tmp 6) 3, type := 0, pos := "law.go:65", after := #[], guard := none }) (v := ?v4n10) rfl (by kernel_rfl) (by kernel_rfl) (by kernel_rfl) (fun _ _ _ h => h) (Or.inl ⟨by rfl, ?hy4n10⟩) ?rest4n10
        case hy4n10 => first | (intro w; go_simp; done) | (intro w; go_simp; with_reducible rfl)
        try simp only [Act.put, List.setIfInBounds_toArray, List.set_cons_zero, List.set_cons_succ]
        refine (fun (X025 : ?T1u8) => ?rest8) ?x025u8
        case rest8 =>
          refine (fun (X02 : ?T2u8) => ?main8) ?x02u8
          case main8 =>
            refine wpAny_ready (rs := [0, 2, 5]) (by kernel_rfl) (by simp) ?_
            refine AllReady.cons (o := { dst := some 98, op := Go.Op.buildSlice 32 0 #[], type := 32, pos := "law.go:65", after := #[], guard := none }) rfl (fun Kr hKr => ?_) ?_
            · go_simp
              refine hKr _ _ ?_
              try simp only [Act.put, List.setIfInBounds_toArray, List.set_cons_zero, List.set_cons_succ]
              refine wpAny_ready (rs := [2, 5]) (by kernel_rfl) (by simp) ?_
              refine AllReady.cons (o := { dst := some 100, op := Go.Op.load 32 (Go.Operand.tmp 99), type := 32, pos := "law.go:65", after := #[{ on := 1, ground := Go.Ground.data }], guard := none }) rfl (fun Kr hKr => ?_) ?_
              · go_simp
                refine hKr _ _ ?_
                try simp only [Act.put, List.setIfInBounds_toArray, List.set_cons_zero, List.set_cons_succ]
                exact X02
              refine AllReady.cons (o := { dst := some 103, op := Go.Op.load 32 (Go.Operand.tmp 102), type := 32, pos := "law.go:65", after := #[{ on := 4, ground := Go.Ground.data }], guard := none }) rfl (fun Kr hKr => ?_) AllReady.nil
              go_simp
              refine hKr _ _ ?_
              try simp only [Act.put, List.setIfInBounds_toArray, List.set_cons_zero, List.set_cons_succ]
              refine wpAny_ready (rs := [2]) (by kernel_rfl) (by simp) ?_
              refine AllReady.cons (o := { dst := some 100, op := Go.Op.load 32 (Go.Operand.tmp 99), type := 32, pos := "law.go:65", after := #[{ on := 1, ground := Go.Ground.data }], guard := none }) rfl (fun Kr hKr => ?_) AllReady.nil
              go_simp
              refine hKr _ _ ?_
              try simp only [Act.put, List.setIfInBounds_toArray, List.set_cons_zero, List.set_cons_succ]
              exact X025
            refine AllReady.cons (o := { dst := some 100, op := Go.Op.load 32 (Go.Operand.tmp 99), type := 32, pos := "law.go:65", after := #[{ on := 1, ground := Go.Ground.data }], guard := none }) rfl (fun Kr hKr => ?_) ?_
            · go_simp
              refine hKr _ _ ?_
              try simp only [Act.put, List.setIfInBounds_toArray, List.set_cons_zero, List.set_cons_succ]
              refine wpAny_ready (rs := [0, 5]) (by kernel_rfl) (by simp) ?_
              refine AllReady.cons (o := { dst := some 98, op := Go.Op.buildSlice 32 0 #[], type := 32, pos := "law.go:65", after := #[], guard := none }) rfl (fun Kr hKr => ?_) ?_
              · go_simp
                refine hKr _ _ ?_
                try simp only [Act.put, List.setIfInBounds_toArray, List.set_cons_zero, List.set_cons_succ]
                exact X02
              refine AllReady.cons (o := { dst := some 103, op := Go.Op.load 32 (Go.Operand.tmp 102), type := 32, pos := "law.go:65", after := #[{ on := 4, ground := Go.Ground.data }], guard := none }) rfl (fun Kr hKr => ?_) AllReady.nil
              go_simp
              refine hKr _ _ ?_
              try simp only [Act.put, List.setIfInBounds_toArray, List.set_cons_zero, List.set_cons_succ]
              refine wpAny_ready (rs := [0]) (by kernel_rfl) (by simp) ?_
              refine AllReady.cons (o := { dst := some 98, op := Go.Op.buildSlice 32 0 #[], type := 32, pos := "law.go:65", after := #[], guard := none }) rfl (fun Kr hKr => ?_) AllReady.nil
              go_simp
              refine hKr _ _ ?_
              try simp only [Act.put, List.setIfInBounds_toArray, List.set_cons_zero, List.set_cons_succ]
              exact X025
            refine AllReady.cons (o := { dst := some 103, op := Go.Op.load 32 (Go.Operand.tmp 102), type := 32, pos := "law.go:65", after := #[{ on := 4, ground := Go.Ground.data }], guard := none }) rfl (fun Kr hKr => ?_) AllReady.nil
            go_simp
            refine hKr _ _ ?_
            try simp only [Act.put, List.setIfInBounds_toArray, List.set_cons_zero, List.set_cons_succ]
            refine wpAny_ready (rs := [0, 2]) (by kernel_rfl) (by simp) ?_
            refine AllReady.cons (o := { dst := some 98, op := Go.Op.buildSlice 32 0 #[], type := 32, pos := "law.go:65", after := #[], guard := none }) rfl (fun Kr hKr => ?_) ?_
            · go_simp
              refine hKr _ _ ?_
              try simp only [Act.put, List.setIfInBounds_toArray, List.set_cons_zero, List.set_cons_succ]
              refine wpAny_ready (rs := [2]) (by kernel_rfl) (by simp) ?_
              refine AllReady.cons (o := { dst := some 100, op := Go.Op.load 32 (Go.Operand.tmp 99), type := 32, pos := "law.go:65", after := #[{ on := 1, ground := Go.Ground.data }], guard := none }) rfl (fun Kr hKr => ?_) AllReady.nil
              go_simp
              refine hKr _ _ ?_
              try simp only [Act.put, List.setIfInBounds_toArray, List.set_cons_zero, List.set_cons_succ]
              exact X025
            refine AllReady.cons (o := { dst := some 100, op := Go.Op.load 32 (Go.Operand.tmp 99), type := 32, pos := "law.go:65", after := #[{ on := 1, ground := Go.Ground.data }], guard := none }) rfl (fun Kr hKr => ?_) AllReady.nil
            go_simp
            refine hKr _ _ ?_
            try simp only [Act.put, List.setIfInBounds_toArray, List.set_cons_zero, List.set_cons_succ]
            refine wpAny_ready (rs := [0]) (by kernel_rfl) (by simp) ?_
            refine AllReady.cons (o := { dst := some 98, op := Go.Op.buildSlice 32 0 #[], type := 32, pos := "law.go:65", after := #[], guard := none }) rfl (fun Kr hKr => ?_) AllReady.nil
            go_simp
            refine hKr _ _ ?_
            try simp only [Act.put, List.setIfInBounds_toArray, List.set_cons_zero, List.set_cons_succ]
            exact X025
          case x02u8 =>
            refine wpAny_ready (rs := [3, 5]) (by kernel_rfl) (by simp) ?_
            refine AllReady.cons (o := { dst := some 101, op := Go.Op.call { callee := Go.Callee.builtin Go.Builtin.append, args := #[Go.Operand.tmp 98, Go.Operand.tmp 100], argTypes := #[32, 32] }, type := 32, pos := "law.go:65", after := #[{ on := 0, ground := Go.Ground.data }, { on := 2, ground := Go.Ground.data }], guard := none }) rfl (fun Kr hKr => ?_) ?_
            · refine wp_append_lies (w := (w7.alloc (.cells #[] 34)).drew) (.tmp 98) (.tmp 100) 32 rfl w7.heap.size 34 iT _ 4 72 Tryd.underlying32 hiT hzT hsT hbT rfl (by omega) (.slice (some ⟨w7.heap.size, 0, none⟩) 0 0) 0 [] rfl (own_keep (World.ownsRow_made w7 #[] 0 (Nat.le_refl _) (by simp [maxLen]) rfl) (fun _ _ => rfl)) ⟨b2, o2, none⟩ kk kp3 ys (congrArg (fun z => Value.slice z kk kp3) hka.out) hys.out.1 (fun j u e => hys.out.2.2 (w7.alloc (.cells #[] 34)).drew (UP.out _ ((via HB7.out hb1x).trans (below_drewN _ _ 1))) j u e) hys.out.2.1 (by omega) (by unfold maxLen; omega) (by omega) (by show w7.heap.size ≤ (w7.alloc (.cells #[] 34)).heap.size; simp) (w7.heap.size + 1) (by show (w7.alloc (.cells #[] 34)).heap.size = _; simp) ?_
              intro ga ca wa h6 h7 h8 h9a
              rw [List.nil_append, Nat.zero_add] at h6
              simp only [Nat.zero_add]
              have hga := sp_block h8
              have hbax := sp_below2 h7
              have d5 := (hK.below hbax).c3
              have H6 := hid h6
              clear h6 h7 h8
              refine hKr _ _ ?_
              try simp only [Act.put, List.setIfInBounds_toArray, List.set_cons_zero, List.set_cons_succ]
              refine wpAny_ready (rs := [5]) (by kernel_rfl) (by simp) ?_
              refine AllReady.cons (o := { dst := some 103, op := Go.Op.load 32 (Go.Operand.tmp 102), type := 32, pos := "law.go:65", after := #[{ on := 4, ground := Go.Ground.data }], guard := none }) rfl (fun Kr hKr => ?_) AllReady.nil
              go_simp
              refine hKr _ _ ?_
              try simp only [Act.put, List.setIfInBounds_toArray, List.set_cons_zero, List.set_cons_succ]
              refine wpAny_ready (rs := [6]) (by kernel_rfl) (by simp) ?_
              refine AllReady.cons (o := { dst := some 104, op := Go.Op.call { callee := Go.Callee.builtin Go.Builtin.append, args := #[Go.Operand.tmp 101, Go.Operand.tmp 103], argTypes := #[32, 32] }, type := 32, pos := "law.go:65", after := #[{ on := 3, ground := Go.Ground.data }, { on := 5, ground := Go.Ground.data }, { on := 3, ground := Go.Ground.chain }], guard := none }) rfl (fun Kr hKr => ?_) AllReady.nil
              refine wp_append_lies (w := wa) (.tmp 101) (.tmp 103) 32 rfl w7.heap.size 34 iT _ 4 72 Tryd.underlying32 hiT hzT hsT hbT rfl (by omega) (.slice (some ⟨ga, 0, none⟩) kk ca) kk ys rfl H6.out ⟨b2, o2, none⟩ kk kp3 ys (congrArg (fun z => Value.slice z kk kp3) hka.out) hys.out.1 (fun j u e => hys.out.2.2 wa (UP.out _ (via HB7.out hbax)) j u e) hys.out.2.1 (by omega) (by unfold maxLen; omega) (by omega) hbax.size wa.heap.size rfl ?_
              intro gb cb wb e6 e7 e8 e9
              have hbbx : Below w7.heap.size w7 wb := hbax.grown e7 hbax.size (fun b e => by
                have : ga = b := by simpa [Value.ownBlock] using e
                omega)
              have hgb : w7.heap.size ≤ gb := by
                rcases e8 with e8 | e8
                · have : ga = gb := by simpa [Value.ownBlock] using e8
                  omega
                · have := hbax.size; omega
              have d6 := (hK.below hbbx).c3
              have uf6 := (hK.below hbbx).fz 3
              have E6 := hid e6
              clear e6 e7 e8 d5
              refine hKr _ _ ?_
              try simp only [Act.put, List.setIfInBounds_toArray, List.set_cons_zero, List.set_cons_succ]
              refine wpAny_take (i := 7) (oi := { dst := some 105, op := Go.Op.fieldAddr 34 (Go.Operand.tmp 6) 3, type := 0, pos := "law.go:65", after := #[{ on := 0, ground := Go.Ground.phase }, { on := 1, ground := Go.Ground.phase }, { on := 2, ground := Go.Ground.phase }, { on := 3, ground := Go.Ground.phase }, { on := 4, ground := Go.Ground.phase }, { on := 5, ground := Go.Ground.phase }, { on := 6, ground := Go.Ground.phase }], guard := none }) (v := ?v7n6) rfl (by kernel_rfl) (by kernel_rfl) (by kernel_rfl) (fun _ _ _ h => h) (Or.inl ⟨by rfl, ?hy7n6⟩) ?rest7n6
              case hy7n6 => first | (intro w; go_simp; done) | (intro w; go_simp; with_reducible rfl)
              try simp only [Act.put, List.setIfInBounds_toArray, List.set_cons_zero, List.set_cons_succ]
              refine wpAny_ready (rs := [8]) (by kernel_rfl) (by simp) ?_
              refine AllReady.cons (o := { dst := none, op := Go.Op.store 32 (Go.Operand.tmp 105) (Go.Operand.tmp 104), type := 0, pos := "law.go:65", after := #[{ on := 7, ground := Go.Ground.data }, { on := 6, ground := Go.Ground.data }, { on := 6, ground := Go.Ground.chain }, { on := 0, ground := Go.Ground.phase }, { on := 1, ground := Go.Ground.phase }, { on := 2, ground := Go.Ground.phase }, { on := 3, ground := Go.Ground.phase }, { on := 4, ground := Go.Ground.phase }, { on := 5, ground := Go.Ground.phase }, { on := 6, ground := Go.Ground.phase }], guard := none }) rfl (fun Kr hKr => ?_) AllReady.nil
              go_simp
              refine hKr _ _ ?_
              try simp only [Act.put, List.setIfInBounds_toArray, List.set_cons_zero, List.set_cons_succ]
              refine wpAny_done (by kernel_rfl) ?_ _
              obtain ⟨w8, hw8⟩ : ∃ w8, w8 = wb.setCell ⟨w6.heap.size, 3, none⟩ (.slice (some ⟨gb, 0, none⟩) (kk + kk) cb) := ⟨_, rfl⟩
              rw [← hw8]
              have HB8 : Hid (Below w.heap.size w w8) := hid (by rw [hw8]; exact ((via HB7.out hbbx).setCell (p := ⟨w6.heap.size, 3, none⟩) HwK.out (.slice (some ⟨gb, 0, none⟩) (kk + kk) cb)))
              have HV8a : Hid (TB w8 w.heap.size (U n0) (.string b0) (.slice a2 nl p2) (.slice (some ⟨g, 0, none⟩) N c)) := hid (by rw [hw8]; exact ((HV7.out.below hbbx).far (o := 3) (Hne.out.2.2.2.2.1) (.slice (some ⟨gb, 0, none⟩) (kk + kk) cb)).of_block rfl ((HV7.out.below hbbx).far (o := 3) (Hne.out.2.2.2.2.1) (.slice (some ⟨gb, 0, none⟩) (kk + kk) cb)).lt)
              have HR8a : Hid (TB w8 w2.heap.size (.int .u64 0) (.string ⟨#[]⟩) (.slice none 0 0) (.slice none 0 0)) := hid (by rw [hw8]; exact ((HR7.out.below hbbx).far (o := 3) (Hne.out.2.2.2.2.2.2.1) (.slice (some ⟨gb, 0, none⟩) (kk + kk) cb)).of_block rfl ((HR7.out.below hbbx).far (o := 3) (Hne.out.2.2.2.2.2.2.1) (.slice (some ⟨gb, 0, none⟩) (kk + kk) cb)).lt)
              have HS8a : Hid (SpV (RdF d) w0 w8 w3.heap.size g N c xs (Node.kids X)) := hid (by rw [hw8]; exact ((HS7.out.keep (W' := wb) (hbbx.block g HS7.out.lt.1)).keep (W' := wb.setCell ⟨w6.heap.size, 3, none⟩ (.slice (some ⟨gb, 0, none⟩) (kk + kk) cb)) (Below.heap_setCell _ _ _ _ Hne.out.1)).keep rfl)
              have hK8 : TB w8 w6.heap.size (U k0) (.string k1) (.slice ka2 kn kp2) (.slice (some ⟨gb, 0, none⟩) (kk + kk) cb) := by rw [hw8]; exact ((hK.below hbbx).set3 (.slice (some ⟨gb, 0, none⟩) (kk + kk) cb)).of_block rfl ((hK.below hbbx).set3 (.slice (some ⟨gb, 0, none⟩) (kk + kk) cb)).lt
              have Hw8 := hid hw8
              clear hw8
              have ⟨_, u0, u1, u2, u3, _⟩ := hK8
              have vm := HV8a.out.c3
              clear y0 y1 y2 y3 v7 uf3 d3 d4 d6 uf6
              have Hth := hid (show World.there (w8) g (i * 4) 4 from HS8a.out.there hiN)
              have HS8 : Hid (SpV (RdF d) w0 (w8) w3.heap.size g N c xs (Node.kids X)) := hid (HS8a.out)
              have HR8 : Hid (TB (w8) w2.heap.size (.int .u64 0) (.string ⟨#[]⟩) (.slice none 0 0) (.slice none 0 0)) := hid (HR8a.out)
              have HV8 : Hid (TB (w8) w.heap.size (U (n0)) (.string b0) (.slice a2 nl p2) (.slice (some ⟨g, 0, none⟩) N c)) := hid (HV8a.out)
              have Hmid := hid fun (ws : World) (hws : ws = setW4 (w8) g (i * 4) (U k0) (.string k1) (.slice ka2 kn kp2) (.slice (some ⟨gb, 0, none⟩) (kk + kk) cb)) => show TB ws w.heap.size (U (n0)) (.string b0) (.slice a2 nl p2) (.slice (some ⟨g, 0, none⟩) N c) ∧ ws.there w2.heap.size 0 4 from by
                subst hws
                exact ⟨HV8.out.of_block (setW4_far _ _ _ _ _ _ _ _ (by have := Hne.out; omega)) (by rw [setW4_size]; exact HV8.out.lt), (HR8.out.of_block (setW4_far _ _ _ _ _ _ _ _ (by have := Hne.out; omega)) (by rw [setW4_size]; exact HR8.out.lt)).there⟩
              have Hfin := hid (sp_fin (nums := Node.nums X) (n1 := n0) (b0 := b0) (a2 := a2) (p2 := p2) (nl := nl) (z0 := U k0) (z1 := .string k1) (z2 := .slice ka2 kn kp2) (z3 := .slice (some ⟨gb, 0, none⟩) (kk + kk) cb) (k8 := ⟨k.num, k.bytes, k.nums, k.kids ++ k.kids⟩) (HB8.out) HS8.out hiN (by omega) Hne.out.2.2.2.2.2.2.2.2 Hne.out.2.2.1 Hne.out.2.2.2.2.2.2.2.1 HR8.out (by rw [Hnl.out]; exact Hn.out) Hnl.out (by rw [Hb0.out]; exact hbs) (by rw [Hnl.out]; exact hnm) (by
                intro W hW hWk
                have hgl := HS7.out.lt
                have hRl := HR7.out.lt
                have hKl := hK.lt
                refine sp_kk (Hk0.out) (Hrd.out W hW) _ (k.kids ++ k.kids) (by rw [List.length_append]; have := Hk0.out; omega) ?_
                have e2 := (Hk0.out).2.2.2
                refine (show Kids (RdS d) W (.slice (some ⟨gb, 0, none⟩) (kk + kk) cb) (k.kids ++ k.kids) from kids_twice (own_keep E6.out (fun b e => ?_)) hys.out.1 e2.symm (fun j q hq => RdS.below (Hyk.out j q hq) hW (Nat.le_refl _)))
                obtain rfl : gb = b := by simpa [Value.ownBlock] using e
                have h5 := (own_blk E6.out (g := gb) rfl).1.lt
                have h6 := HB7.out.size
                rw [hWk _ (by omega) (by omega) (by omega) (by rw [Hw8.out]; simpa [World.setCell] using h5), Hw8.out]
                exact Below.heap_setCell _ _ _ _ (show gb ≠ w6.heap.size by omega)
                ))
              go_wp2_with (first
                | (refine wpList_put4 rfl (.tmp 124) (.tmp 123) rfl g (i * 4) (U k0) (.string k1) (.slice ka2 kn kp2) (.slice (some ⟨gb, 0, none⟩) (kk + kk) cb) rfl rfl Hth.out rfl rfl rfl rfl ?_; intro ws hws; have ⟨⟨_, e0, e1, e2, e3, _⟩, _⟩ := Hmid.out ws hws.out; clear v3 u0 u1 u2 u3 vm c0 c1 c2 q0 q2 q3 q4 ef0 ef3 hw7 yf0 yf1 yf2 yf3)
                | (refine wpList_put4 rfl (.tmp 4) (.tmp 125) rfl w2.heap.size 0 (U (n0)) (.string b0) (.slice a2 nl p2) (.slice (some ⟨g, 0, none⟩) N c) rfl rfl (Hmid.out ws hws.out).2 rfl rfl rfl rfl ?_; intro w9 hw9; clear e0 e1 e2 e3))
              (try simp only [Exit.inBlock, Exit.then])
              have hf := Hfin.out
              rw [← hws.out, show setR ws w2.heap.size (U (n0)) (.string b0) (.slice a2 nl p2) (.slice (some ⟨g, 0, none⟩) N c) = w9 from hw9.out.symm] at hf
              have ⟨⟨_, r0, r1, r2, r3, _⟩, ⟨X9, hX9n, hX9⟩, hB9⟩ := hf
              refine bodyPost_ret (by simp [results, Tryd.results11, go_sem, r0, r1, r2, r3]; try rfl) rfl ?_
              exact ⟨_, _, _, _, X9, rfl, ⟨hX9n.1.trans Hb0.out, hX9n.2⟩, hX9, hB9⟩
            refine AllReady.cons (o := { dst := some 103, op := Go.Op.load 32 (Go.Operand.tmp 102), type := 32, pos := "law.go:65", after := #[{ on := 4, ground := Go.Ground.data }], guard := none }) rfl (fun Kr hKr => ?_) AllReady.nil
            go_simp
            refine hKr _ _ ?_
            try simp only [Act.put, List.setIfInBounds_toArray, List.set_cons_zero, List.set_cons_succ]
            exact X025
        case x025u8 =>
          refine wpAny_ready (rs := [3]) (by kernel_rfl) (by simp) ?_
          refine AllReady.cons (o := { dst := some 101, op := Go.Op.call { callee := Go.Callee.builtin Go.Builtin.append, args := #[Go.Operand.tmp 98, Go.Operand.tmp 100], argTypes := #[32, 32] }, type := 32, pos := "law.go:65", after := #[{ on := 0, ground := Go.Ground.data }, { on := 2, ground := Go.Ground.data }], guard := none }) rfl (fun Kr hKr => ?_) AllReady.nil
          refine wp_append_lies (w := (w7.alloc (.cells #[] 34)).drew) (.tmp 98) (.tmp 100) 32 rfl w7.heap.size 34 iT _ 4 72 Tryd.underlying32 hiT hzT hsT hbT rfl (by omega) (.slice (some ⟨w7.heap.size, 0, none⟩) 0 0) 0 [] rfl (own_keep (World.ownsRow_made w7 #[] 0 (Nat.le_refl _) (by simp [maxLen]) rfl) (fun _ _ => rfl)) ⟨b2, o2, none⟩ kk kp3 ys (congrArg (fun z => Value.slice z kk kp3) hka.out) hys.out.1 (fun j u e => hys.out.2.2 (w7.alloc (.cells #[] 34)).drew (UP.out _ ((via HB7.out hb1x).trans (below_drewN _ _ 1))) j u e) hys.out.2.1 (by omega) (by unfold maxLen; omega) (by omega) (by show w7.heap.size ≤ (w7.alloc (.cells #[] 34)).heap.size; simp) (w7.heap.size + 1) (by show (w7.alloc (.cells #[] 34)).heap.size = _; simp) ?_
          intro ga ca wa h6 h7 h8 h9a
          rw [List.nil_append, Nat.zero_add] at h6
          simp only [Nat.zero_add]
          have hga := sp_block h8
          have hbax := sp_below2 h7
          have d5 := (hK.below hbax).c3
          have H6 := hid h6
          clear h6 h7 h8
          refine hKr _ _ ?_
          try simp only [Act.put, List.setIfInBounds_toArray, List.set_cons_zero, List.set_cons_succ]
          refine wpAny_ready (rs := [6]) (by kernel_rfl) (by simp) ?_
          refine AllReady.cons (o := { dst := some 104, op := Go.Op.call { callee := Go.Callee.builtin Go.Builtin.append, args := #[Go.Operand.tmp 101, Go.Operand.tmp 103], argTypes := #[32, 32] }, type := 32, pos := "law.go:65", after := #[{ on := 3, ground := Go.Ground.data }, { on := 5, ground := Go.Ground.data }, { on := 3, ground := Go.Ground.chain }], guard := none }) rfl (fun Kr hKr => ?_) AllReady.nil
          refine wp_append_lies (w := wa) (.tmp 101) (.tmp 103) 32 rfl w7.heap.size 34 iT _ 4 72 Tryd.underlying32 hiT hzT hsT hbT rfl (by omega) (.slice (some ⟨ga, 0, none⟩) kk ca) kk ys rfl H6.out ⟨b2, o2, none⟩ kk kp3 ys (congrArg (fun z => Value.slice z kk kp3) hka.out) hys.out.1 (fun j u e => hys.out.2.2 wa (UP.out _ (via HB7.out hbax)) j u e) hys.out.2.1 (by omega) (by unfold maxLen; omega) (by omega) hbax.size wa.heap.size rfl ?_
          intro gb cb wb e6 e7 e8 e9
          have hbbx : Below w7.heap.size w7 wb := hbax.grown e7 hbax.size (fun b e => by
            have : ga = b := by simpa [Value.ownBlock] using e
            omega)
          have hgb : w7.heap.size ≤ gb := by
            rcases e8 with e8 | e8
            · have : ga = gb := by simpa [Value.ownBlock] using e8
              omega
            · have := hbax.size; omega
          have d6 := (hK.below hbbx).c3
          have uf6 := (hK.below hbbx).fz 3
          have E6 := hid e6
          clear e6 e7 e8 d5
          refine hKr _ _ ?_
          try simp only [Act.put, List.setIfInBounds_toArray, List.set_cons_zero, List.set_cons_succ]
          refine wpAny_take (i := 7) (oi := { dst := some 105, op := Go.Op.fieldAddr 34 (Go.Operand.tmp 6) 3, type := 0, pos := "law.go:65", after := #[{ on := 0, ground := Go.Ground.phase }, { on := 1, ground := Go.Ground.phase }, { on := 2, ground := Go.Ground.phase }, { on := 3, ground := Go.Ground.phase }, { on := 4, ground := Go.Ground.phase }, { on := 5, ground := Go.Ground.phase }, { on := 6, ground := Go.Ground.phase }], guard := none }) (v := ?v7n7) rfl (by kernel_rfl) (by kernel_rfl) (by kernel_rfl) (fun _ _ _ h => h) (Or.inl ⟨by rfl, ?hy7n7⟩) ?rest7n7
          case hy7n7 => first | (intro w; go_simp; done) | (intro w; go_simp; with_reducible rfl)
          try simp only [Act.put, List.setIfInBounds_toArray, List.set_cons_zero, List.set_cons_succ]
          refine wpAny_ready (rs := [8]) (by kernel_rfl) (by simp) ?_
          refine AllReady.cons (o := { dst := none, op := Go.Op.store 32 (Go.Operand.tmp 105) (Go.Operand.tmp 104), type := 0, pos := "law.go:65", after := #[{ on := 7, ground := Go.Ground.data }, { on := 6, ground := Go.Ground.data }, { on := 6, ground := Go.Ground.chain }, { on := 0, ground := Go.Ground.phase }, { on := 1, ground := Go.Ground.phase }, { on := 2, ground := Go.Ground.phase }, { on := 3, ground := Go.Ground.phase }, { on := 4, ground := Go.Ground.phase }, { on := 5, ground := Go.Ground.phase }, { on := 6, ground := Go.Ground.phase }], guard := none }) rfl (fun Kr hKr => ?_) AllReady.nil
          go_simp
          refine hKr _ _ ?_
          try simp only [Act.put, List.setIfInBounds_toArray, List.set_cons_zero, List.set_cons_succ]
          refine wpAny_done (by kernel_rfl) ?_ _
          obtain ⟨w8, hw8⟩ : ∃ w8, w8 = wb.setCell ⟨w6.heap.size, 3, none⟩ (.slice (some ⟨gb, 0, none⟩) (kk + kk) cb) := ⟨_, rfl⟩
          rw [← hw8]
          have HB8 : Hid (Below w.heap.size w w8) := hid (by rw [hw8]; exact ((via HB7.out hbbx).setCell (p := ⟨w6.heap.size, 3, none⟩) HwK.out (.slice (some ⟨gb, 0, none⟩) (kk + kk) cb)))
          have HV8a : Hid (TB w8 w.heap.size (U n0) (.string b0) (.slice a2 nl p2) (.slice (some ⟨g, 0, none⟩) N c)) := hid (by rw [hw8]; exact ((HV7.out.below hbbx).far (o := 3) (Hne.out.2.2.2.2.1) (.slice (some ⟨gb, 0, none⟩) (kk + kk) cb)).of_block rfl ((HV7.out.below hbbx).far (o := 3) (Hne.out.2.2.2.2.1) (.slice (some ⟨gb, 0, none⟩) (kk + kk) cb)).lt)
          have HR8a : Hid (TB w8 w2.heap.size (.int .u64 0) (.string ⟨#[]⟩) (.slice none 0 0) (.slice none 0 0)) := hid (by rw [hw8]; exact ((HR7.out.below hbbx).far (o := 3) (Hne.out.2.2.2.2.2.2.1) (.slice (some ⟨gb, 0, none⟩) (kk + kk) cb)).of_block rfl ((HR7.out.below hbbx).far (o := 3) (Hne.out.2.2.2.2.2.2.1) (.slice (some ⟨gb, 0, none⟩) (kk + kk) cb)).lt)
          have HS8a : Hid (SpV (RdF d) w0 w8 w3.heap.size g N c xs (Node.kids X)) := hid (by rw [hw8]; exact ((HS7.out.keep (W' := wb) (hbbx.block g HS7.out.lt.1)).keep (W' := wb.setCell ⟨w6.heap.size, 3, none⟩ (.slice (some ⟨gb, 0, none⟩) (kk + kk) cb)) (Below.heap_setCell _ _ _ _ Hne.out.1)).keep rfl)
          have hK8 : TB w8 w6.heap.size (U k0) (.string k1) (.slice ka2 kn kp2) (.slice (some ⟨gb, 0, none⟩) (kk + kk) cb) := by rw [hw8]; exact ((hK.below hbbx).set3 (.slice (some ⟨gb, 0, none⟩) (kk + kk) cb)).of_block rfl ((hK.below hbbx).set3 (.slice (some ⟨gb, 0, none⟩) (kk + kk) cb)).lt
          have Hw8 := hid hw8
          clear hw8
          have ⟨_, u0, u1, u2, u3, _⟩ := hK8
          have vm := HV8a.out.c3
          clear y0 y1 y2 y3 v7 uf3 d3 d4 d6 uf6
          have Hth := hid (show World.there (w8) g (i * 4) 4 from HS8a.out.there hiN)
          have HS8 : Hid (SpV (RdF d) w0 (w8) w3.heap.size g N c xs (Node.kids X)) := hid (HS8a.out)
          have HR8 : Hid (TB (w8) w2.heap.size (.int .u64 0) (.string ⟨#[]⟩) (.slice none 0 0) (.slice none 0 0)) := hid (HR8a.out)
          have HV8 : Hid (TB (w8) w.heap.size (U (n0)) (.string b0) (.slice a2 nl p2) (.slice (some ⟨g, 0, none⟩) N c)) := hid (HV8a.out)
          have Hmid := hid fun (ws : World) (hws : ws = setW4 (w8) g (i * 4) (U k0) (.string k1) (.slice ka2 kn kp2) (.slice (some ⟨gb, 0, none⟩) (kk + kk) cb)) => show TB ws w.heap.size (U (n0)) (.string b0) (.slice a2 nl p2) (.slice (some ⟨g, 0, none⟩) N c) ∧ ws.there w2.heap.size 0 4 from by
            subst hws
            exact ⟨HV8.out.of_block (setW4_far _ _ _ _ _ _ _ _ (by have := Hne.out; omega)) (by rw [setW4_size]; exact HV8.out.lt), (HR8.out.of_block (setW4_far _ _ _ _ _ _ _ _ (by have := Hne.out; omega)) (by rw [setW4_size]; exact HR8.out.lt)).there⟩
          have Hfin := hid (sp_fin (nums := Node.nums X) (n1 := n0) (b0 := b0) (a2 := a2) (p2 := p2) (nl := nl) (z0 := U k0) (z1 := .string k1) (z2 := .slice ka2 kn kp2) (z3 := .slice (some ⟨gb, 0, none⟩) (kk + kk) cb) (k8 := ⟨k.num, k.bytes, k.nums, k.kids ++ k.kids⟩) (HB8.out) HS8.out hiN (by omega) Hne.out.2.2.2.2.2.2.2.2 Hne.out.2.2.1 Hne.out.2.2.2.2.2.2.2.1 HR8.out (by rw [Hnl.out]; exact Hn.out) Hnl.out (by rw [Hb0.out]; exact hbs) (by rw [Hnl.out]; exact hnm) (by
            intro W hW hWk
            have hgl := HS7.out.lt
            have hRl := HR7.out.lt
            have hKl := hK.lt
            refine sp_kk (Hk0.out) (Hrd.out W hW) _ (k.kids ++ k.kids) (by rw [List.length_append]; have := Hk0.out; omega) ?_
            have e2 := (Hk0.out).2.2.2
            refine (show Kids (RdS d) W (.slice (some ⟨gb, 0, none⟩) (kk + kk) cb) (k.kids ++ k.kids) from kids_twice (own_keep E6.out (fun b e => ?_)) hys.out.1 e2.symm (fun j q hq => RdS.below (Hyk.out j q hq) hW (Nat.le_refl _)))
            obtain rfl : gb = b := by simpa [Value.ownBlock] using e
            have h5 := (own_blk E6.out (g := gb) rfl).1.lt
            have h6 := HB7.out.size
            rw [hWk _ (by omega) (by omega) (by omega) (by rw [Hw8.out]; simpa [World.setCell] using h5), Hw8.out]
            exact Below.heap_setCell _ _ _ _ (show gb ≠ w6.heap.size by omega)
            ))
          go_wp2_with (first
            | (refine wpList_put4 rfl (.tmp 124) (.tmp 123) rfl g (i * 4) (U k0) (.string k1) (.slice ka2 kn kp2) (.slice (some ⟨gb, 0, none⟩) (kk + kk) cb) rfl rfl Hth.out rfl rfl rfl rfl ?_; intro ws hws; have ⟨⟨_, e0, e1, e2, e3, _⟩, _⟩ := Hmid.out ws hws.out; clear v3 u0 u1 u2 u3 vm c0 c1 c2 q0 q2 q3 q4 ef0 ef3 hw7 yf0 yf1 yf2 yf3)
            | (refine wpList_put4 rfl (.tmp 4) (.tmp 125) rfl w2.heap.size 0 (U (n0)) (.string b0) (.slice a2 nl p2) (.slice (some ⟨g, 0, none⟩) N c) rfl rfl (Hmid.out ws hws.out).2 rfl rfl rfl rfl ?_; intro w9 hw9; clear e0 e1 e2 e3))
          (try simp only [Exit.inBlock, Exit.then])
          have hf := Hfin.out
          rw [← hws.out, show setR ws w2.heap.size (U (n0)) (.string b0) (.slice a2 nl p2) (.slice (some ⟨g, 0, none⟩) N c) = w9 from hw9.out.symm] at hf
          have ⟨⟨_, r0, r1, r2, r3, _⟩, ⟨X9, hX9n, hX9⟩, hB9⟩ := hf
          refine bodyPost_ret (by simp [results, Tryd.results11, go_sem, r0, r1, r2, r3]; try rfl) rfl ?_
          exact ⟨_, _, _, _, X9, rfl, ⟨hX9n.1.trans Hb0.out, hX9n.2⟩, hX9, hB9⟩
    · have hc : how % 8 = 5 := hc5
      have hiN1 : (i : Int) < (N : Int) + 1 := by omega
      go_wp2_with (first
        | (at_builtin; (
           refine wpList_append_lies (w := w7.alloc (.cells #[.int .u64 0, .string ⟨#[]⟩, .slice none 0 0, .slice none 0 0] 34)) rfl (.tmp 109) (.tmp 111) 32 rfl w3.heap.size 34 iT _ 4 72 Tryd.underlying32 hiT hzT hsT hbT rfl (by omega) (.slice (some ⟨g, 0, none⟩) N c) N xs rfl (own_beneath HS7.out.own (below_alloc _ _)) ⟨w7.heap.size, 0, none⟩ 1 1 [.int .u64 0, .string ⟨#[]⟩, .slice none 0 0, .slice none 0 0] rfl rfl (news_at _ _ rfl #[.int .u64 0, .string ⟨#[]⟩, .slice none 0 0, .slice none 0 0] 34) (by simp [Value.oneCell']) (by omega) (by unfold maxLen; omega) (by omega) (by have := HS7.out.lt; simp; omega) (w7.heap.size + 1) (by simp) ?_
           intro g2 cc2 wa h6 h7 h8 h9a
           have hba := below_alloc w7 (.cells #[.int .u64 0, .string ⟨#[]⟩, .slice none 0 0, .slice none 0 0] 34)
           have hneV : (Value.slice (some ⟨g, 0, none⟩) N c).ownBlock ≠ some w.heap.size := fun e => Hne.out.2.1 (by simpa [Value.ownBlock] using e)
           have hneK : (Value.slice (some ⟨g, 0, none⟩) N c).ownBlock ≠ some w6.heap.size := fun e => Hne.out.1 (by simpa [Value.ownBlock] using e)
           have hneR : (Value.slice (some ⟨g, 0, none⟩) N c).ownBlock ≠ some w2.heap.size := fun e => Hne.out.2.2.1 (by simpa [Value.ownBlock] using e)
           have HVa := hid ((HV7.out.below hba).grown h7 hneV)
           have HRa := hid ((HR7.out.below hba).grown h7 hneR)
           have hKa := (hK.below hba).grown h7 hneK
           have HBa := hid ((via HB7.out hba).grown h7 (by have := (via HB7.out hba).size; exact this) (fun b e => by
             have : g = b := by simpa [Value.ownBlock] using e
             have := HS7.out.lt; have := Hne.out; omega))
           have HSa := hid (HS7.out.push (W' := wa) (fun W => rd_zeroT _ W) h6)
           have hg2 : g2 ≠ w.heap.size ∧ g2 ≠ w2.heap.size ∧ g2 ≠ w6.heap.size := by
             have := Hne.out; have := HV7.out.lt; have := HR7.out.lt; have := hK.lt
             rcases h8 with h8 | h8
             · have : g = g2 := by simpa [Value.ownBlock] using h8
               subst this; omega
             · omega
           have ⟨_, u0, u1, u2, u3, _⟩ := hKa
           have vm := HVa.out.c3
           have vmf := HVa.out.fz 3
           have Hth := hid (show World.there (wa.setCell ⟨w.heap.size, 3, none⟩ (.slice (some ⟨g2, 0, none⟩) (N + 1) cc2)) g2 (i * 4) 4 from sp_there (HSa.out.there (by omega)) (fun e => hg2.1 e.symm))
           have HS8 : Hid (SpV (RdF d) w0 (wa.setCell ⟨w.heap.size, 3, none⟩ (.slice (some ⟨g2, 0, none⟩) (N + 1) cc2)) w3.heap.size g2 (N + 1) cc2 (xs ++ [.int .u64 0, .string ⟨#[]⟩, .slice none 0 0, .slice none 0 0]) (Node.kids X ++ [zeroT])) := hid (HSa.out.keep (Below.heap_setCell _ _ _ _ hg2.1))
           have HR8 : Hid (TB (wa.setCell ⟨w.heap.size, 3, none⟩ (.slice (some ⟨g2, 0, none⟩) (N + 1) cc2)) w2.heap.size (.int .u64 0) (.string ⟨#[]⟩) (.slice none 0 0) (.slice none 0 0)) := hid (HRa.out.far (Hne.out.2.2.2.2.2.1) (.slice (some ⟨g2, 0, none⟩) (N + 1) cc2))
           have HV8 : Hid (TB (wa.setCell ⟨w.heap.size, 3, none⟩ (.slice (some ⟨g2, 0, none⟩) (N + 1) cc2)) w.heap.size (U (n0)) (.string b0) (.slice a2 nl p2) (.slice (some ⟨g2, 0, none⟩) (N + 1) cc2)) := hid (HVa.out.set3 (.slice (some ⟨g2, 0, none⟩) (N + 1) cc2))
           have Hmid := hid fun (ws : World) (hws : ws = setW4 (wa.setCell ⟨w.heap.size, 3, none⟩ (.slice (some ⟨g2, 0, none⟩) (N + 1) cc2)) g2 (i * 4) (U k0) (.string k1) (.slice ka2 kn kp2) (.slice ka3 kk kp3)) => show TB ws w.heap.size (U (n0)) (.string b0) (.slice a2 nl p2) (.slice (some ⟨g2, 0, none⟩) (N + 1) cc2) ∧ ws.there w2.heap.size 0 4 from by
             subst hws
             exact ⟨HV8.out.of_block (setW4_far _ _ _ _ _ _ _ _ (by have := Hne.out; omega)) (by rw [setW4_size]; exact HV8.out.lt), (HR8.out.of_block (setW4_far _ _ _ _ _ _ _ _ (by have := Hne.out; omega)) (by rw [setW4_size]; exact HR8.out.lt)).there⟩
           have Hfin := hid (sp_fin (nums := Node.nums X) (n1 := n0) (b0 := b0) (a2 := a2) (p2 := p2) (nl := nl) (z0 := U k0) (z1 := .string k1) (z2 := .slice ka2 kn kp2) (z3 := .slice ka3 kk kp3) (k8 := k) (HBa.out.setCell (p := ⟨w.heap.size, 3, none⟩) (Nat.le_refl _) (.slice (some ⟨g2, 0, none⟩) (N + 1) cc2)) HS8.out (show i < N + 1 by omega) (by omega) Hne.out.2.2.2.2.2.2.2.2 hg2.2.1 Hne.out.2.2.2.2.2.2.2.1 HR8.out (by rw [Hnl.out]; exact Hn.out) Hnl.out (by rw [Hb0.out]; exact hbs) (by rw [Hnl.out]; exact hnm) (by
             intro W hW hWk
             exact sp_k7 (Hk0.out) (Hrd.out W hW)
             ))

           clear h6 h7 h8 hKa y0 y1 y2 y3 v7))
        | (refine wpList_put4 rfl (.tmp 124) (.tmp 123) rfl g2 (i * 4) (U k0) (.string k1) (.slice ka2 kn kp2) (.slice ka3 kk kp3) rfl rfl Hth.out rfl rfl rfl rfl ?_; intro ws hws; have ⟨⟨_, e0, e1, e2, e3, _⟩, _⟩ := Hmid.out ws hws.out; clear v3 u0 u1 u2 u3 vm vmf c0 c1 c3 q0 q2 q3 q4 ef0 ef3 hw7 yf0 yf1 yf2 yf3)
        | (refine wpList_put4 rfl (.tmp 4) (.tmp 125) rfl w2.heap.size 0 (U (n0)) (.string b0) (.slice a2 nl p2) (.slice (some ⟨g2, 0, none⟩) (N + 1) cc2) rfl rfl (Hmid.out ws hws.out).2 rfl rfl rfl rfl ?_; intro w9 hw9; clear e0 e1 e2 e3))
      (try simp only [Exit.inBlock, Exit.then])
      have hf := Hfin.out
      rw [← hws.out, show setR ws w2.heap.size (U (n0)) (.string b0) (.slice a2 nl p2) (.slice (some ⟨g2, 0, none⟩) (N + 1) cc2) = w9 from hw9.out.symm] at hf
      have ⟨⟨_, r0, r1, r2, r3, _⟩, ⟨X9, hX9n, hX9⟩, hB9⟩ := hf
      refine bodyPost_ret (by simp [results, Tryd.results11, go_sem, r0, r1, r2, r3]; try rfl) rfl ?_
      exact ⟨_, _, _, _, X9, rfl, ⟨hX9n.1.trans Hb0.out, hX9n.2⟩, hX9, hB9⟩
    · have hc : how % 8 = 6 := hc6
      have w70 := HV7.out.c0
      have Hth := hid (show World.there (w7.setCell ⟨w.heap.size, 0, none⟩ (U (BitVec.ofInt 64 n))) g (i * 4) 4 from sp_there Hth7.out Hne.out.2.1.symm)
      have HS8 : Hid (SpV (RdF d) w0 (w7.setCell ⟨w.heap.size, 0, none⟩ (U (BitVec.ofInt 64 n))) w3.heap.size g N c xs (Node.kids X)) := hid (HS7.out.keep (Below.heap_setCell _ _ _ _ Hne.out.2.1))
      have HR8 : Hid (TB (w7.setCell ⟨w.heap.size, 0, none⟩ (U (BitVec.ofInt 64 n))) w2.heap.size (.int .u64 0) (.string ⟨#[]⟩) (.slice none 0 0) (.slice none 0 0)) := hid (HR7.out.far (Hne.out.2.2.2.2.2.1) (U (BitVec.ofInt 64 n)))
      have HV8 : Hid (TB (w7.setCell ⟨w.heap.size, 0, none⟩ (U (BitVec.ofInt 64 n))) w.heap.size (U (BitVec.ofInt 64 n)) (.string b0) (.slice a2 nl p2) (.slice (some ⟨g, 0, none⟩) N c)) := hid (HV7.out.set0 (U (BitVec.ofInt 64 n)))
      have Hmid := hid fun (ws : World) (hws : ws = setW4 (w7.setCell ⟨w.heap.size, 0, none⟩ (U (BitVec.ofInt 64 n))) g (i * 4) (U k0) (.string k1) (.slice ka2 kn kp2) (.slice ka3 kk kp3)) => show TB ws w.heap.size (U (BitVec.ofInt 64 n)) (.string b0) (.slice a2 nl p2) (.slice (some ⟨g, 0, none⟩) N c) ∧ ws.there w2.heap.size 0 4 from by
        subst hws
        exact ⟨HV8.out.of_block (setW4_far _ _ _ _ _ _ _ _ (by have := Hne.out; omega)) (by rw [setW4_size]; exact HV8.out.lt), (HR8.out.of_block (setW4_far _ _ _ _ _ _ _ _ (by have := Hne.out; omega)) (by rw [setW4_size]; exact HR8.out.lt)).there⟩
      have Hfin := hid (sp_fin (nums := Node.nums X) (n1 := BitVec.ofInt 64 n) (b0 := b0) (a2 := a2) (p2 := p2) (nl := nl) (z0 := U k0) (z1 := .string k1) (z2 := .slice ka2 kn kp2) (z3 := .slice ka3 kk kp3) (k8 := k) (HB7.out.setCell (p := ⟨w.heap.size, 0, none⟩) (Nat.le_refl _) (U (BitVec.ofInt 64 n))) HS8.out hiN (by omega) Hne.out.2.2.2.2.2.2.2.2 Hne.out.2.2.1 Hne.out.2.2.2.2.2.2.2.1 HR8.out (by rw [Hnl.out]; exact Hn.out) Hnl.out (by rw [Hb0.out]; exact hbs) (by rw [Hnl.out]; exact hnm) (by
        intro W hW hWk
        exact sp_k7 (Hk0.out) (Hrd.out W hW)
        ))
      go_wp2_with (first
        | (refine wpList_put4 rfl (.tmp 124) (.tmp 123) rfl g (i * 4) (U k0) (.string k1) (.slice ka2 kn kp2) (.slice ka3 kk kp3) rfl rfl Hth.out rfl rfl rfl rfl ?_; intro ws hws; have ⟨⟨_, e0, e1, e2, e3, _⟩, _⟩ := Hmid.out ws hws.out; clear v3 c0 c1 c2 c3 y0 y1 y2 y3 yf0 yf1 yf2 yf3 v7 q0 q2 q3 q4 ef0 ef3 hw7 w70)
        | (refine wpList_put4 rfl (.tmp 4) (.tmp 125) rfl w2.heap.size 0 (U (BitVec.ofInt 64 n)) (.string b0) (.slice a2 nl p2) (.slice (some ⟨g, 0, none⟩) N c) rfl rfl (Hmid.out ws hws.out).2 rfl rfl rfl rfl ?_; intro w9 hw9; clear e0 e1 e2 e3))
      (try simp only [Exit.inBlock, Exit.then])
      have hf := Hfin.out
      rw [← hws.out, show setR ws w2.heap.size (U (BitVec.ofInt 64 n)) (.string b0) (.slice a2 nl p2) (.slice (some ⟨g, 0, none⟩) N c) = w9 from hw9.out.symm] at hf
      have ⟨⟨_, r0, r1, r2, r3, _⟩, ⟨X9, hX9n, hX9⟩, hB9⟩ := hf
      refine bodyPost_ret (by simp [results, Tryd.results11, go_sem, r0, r1, r2, r3]; try rfl) rfl ?_
      exact ⟨_, _, _, _, X9, rfl, ⟨hX9n.1.trans Hb0.out, hX9n.2⟩, hX9, hB9⟩
    · have hc : how % 8 = 7 := hc7
      have Hth := hid (show World.there (w7) g (i * 4) 4 from Hth7.out)
      have HS8 : Hid (SpV (RdF d) w0 (w7) w3.heap.size g N c xs (Node.kids X)) := hid (HS7.out)
      have HR8 : Hid (TB (w7) w2.heap.size (.int .u64 0) (.string ⟨#[]⟩) (.slice none 0 0) (.slice none 0 0)) := hid (HR7.out)
      have HV8 : Hid (TB (w7) w.heap.size (U (n0)) (.string b0) (.slice a2 nl p2) (.slice (some ⟨g, 0, none⟩) N c)) := hid (HV7.out)
      have Hmid := hid fun (ws : World) (hws : ws = setW4 (w7) g (i * 4) (U k0) (.string k1) (.slice ka2 kn kp2) (.slice ka3 kk kp3)) => show TB ws w.heap.size (U (n0)) (.string b0) (.slice a2 nl p2) (.slice (some ⟨g, 0, none⟩) N c) ∧ ws.there w2.heap.size 0 4 from by
        subst hws
        exact ⟨HV8.out.of_block (setW4_far _ _ _ _ _ _ _ _ (by have := Hne.out; omega)) (by rw [setW4_size]; exact HV8.out.lt), (HR8.out.of_block (setW4_far _ _ _ _ _ _ _ _ (by have := Hne.out; omega)) (by rw [setW4_size]; exact HR8.out.lt)).there⟩
      have Hfin := hid (sp_fin (nums := Node.nums X) (n1 := n0) (b0 := b0) (a2 := a2) (p2 := p2) (nl := nl) (z0 := U k0) (z1 := .string k1) (z2 := .slice ka2 kn kp2) (z3 := .slice ka3 kk kp3) (k8 := k) (HB7.out) HS8.out hiN (by omega) Hne.out.2.2.2.2.2.2.2.2 Hne.out.2.2.1 Hne.out.2.2.2.2.2.2.2.1 HR8.out (by rw [Hnl.out]; exact Hn.out) Hnl.out (by rw [Hb0.out]; exact hbs) (by rw [Hnl.out]; exact hnm) (by
        intro W hW hWk
        exact sp_k7 (Hk0.out) (Hrd.out W hW)
        ))
      go_wp2_with (first
        | (refine wpList_put4 rfl (.tmp 124) (.tmp 123) rfl g (i * 4) (U k0) (.string k1) (.slice ka2 kn kp2) (.slice ka3 kk kp3) rfl rfl Hth.out rfl rfl rfl rfl ?_; intro ws hws; have ⟨⟨_, e0, e1, e2, e3, _⟩, _⟩ := Hmid.out ws hws.out; clear v3 c0 c1 c2 c3 y0 y1 y2 y3 yf0 yf1 yf2 yf3 v7 q0 q2 q3 q4 ef0 ef3 hw7)
        | (refine wpList_put4 rfl (.tmp 4) (.tmp 125) rfl w2.heap.size 0 (U (n0)) (.string b0) (.slice a2 nl p2) (.slice (some ⟨g, 0, none⟩) N c) rfl rfl (Hmid.out ws hws.out).2 rfl rfl rfl rfl ?_; intro w9 hw9; clear e0 e1 e2 e3))
      (try simp only [Exit.inBlock, Exit.then])
      have hf := Hfin.out
      rw [← hws.out, show setR ws w2.heap.size (U (n0)) (.string b0) (.slice a2 nl p2) (.slice (some ⟨g, 0, none⟩) N c) = w9 from hw9.out.symm] at hf
      have ⟨⟨_, r0, r1, r2, r3, _⟩, ⟨X9, hX9n, hX9⟩, hB9⟩ := hf
      refine bodyPost_ret (by simp [results, Tryd.results11, go_sem, r0, r1, r2, r3]; try rfl) rfl ?_
      exact ⟨_, _, _, _, X9, rfl, ⟨hX9n.1.trans Hb0.out, hX9n.2⟩, hX9, hB9⟩
end Go.Proofs.YtmcpanjpjnlleaaDoor


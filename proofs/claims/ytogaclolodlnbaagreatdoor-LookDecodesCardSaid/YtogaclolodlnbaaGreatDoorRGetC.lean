/- The document's get and Get: what a path leads to. -/
import Derived.Test.YtogaclolodlnbaaGreatDoorGs
import Derived.Test.YtogaclolodlnbaaGreatDoorGw
import Derived.Test.YtogaclolodlnbaaGreatDoorRGK4
import Derived.Test.YtogaclolodlnbaaGreatDoorGu
import Derived.Test.YtogaclolodlnbaaGreatDoorGf
import Derived.Test.YtogaclolodlnbaaGreatDoorGj
set_option linter.unusedVariables false
set_option linter.unusedSimpArgs false
namespace Go.Proofs.YtogaclolodlnbaaGreatDoor
section SRGetC
open Go.RowKit

set_option maxRecDepth 100000 in
set_option maxHeartbeats 40000000 in
theorem rget_k0 (s : Schema) (sa : Option Addr) (sn sc : Nat) (d : Nat) : ∀ (t : Nat) (v : St (d + 1)) (cs : List Value) (p : Int) (rest : List Int) (b off m c : Nat) (w : World),
    RdS (d + 1) w cs v → m = rest.length + 1 → Ints w (.slice (some ⟨b, off, none⟩) m c) (p :: rest) → (p < 0 ∨ (Node.kids v).length ≤ p.toNat) →
    Calls Tryz.prog 49 #[.slice sa sn sc, .int .i64 t, .agg cs.toArray, .slice (some ⟨b, off, none⟩) m c] w (RGetR w (getT s (d + 1) t v (p :: rest))) := by
  intro t v cs p rest b off m c w h hm hp hK
  obtain ⟨a2, p2, a, cap, rfl, -, -, -, -, hkm⟩ := RdN.open h
  clear h
  have Hv := hid (show getT s (d + 1) t v (p :: rest) = (0#64, 1) by
    rw [getT, List.headD_cons]
    split
    · rfl
    · rw [List.getElem?_eq_none (by omega)])
  rw [Hv.out]
  obtain ⟨N, hN⟩ : ∃ N, N = (Node.kids v).length := ⟨_, rfl⟩
  rw [← hN] at hkm hK ⊢
  clear hN
  subst hm
  obtain ⟨b', off', c', e, h2, h3, h4, h5⟩ := Row.cons hp (by simp)
  simp only [Value.slice.injEq, Option.some.injEq, Addr.mk.injEq] at e
  obtain ⟨⟨rfl, rfl, _⟩, em, rfl⟩ := e
  clear em
  have c0 : w.cell? ⟨b, off, none⟩ = some (.int .i64 p) := h5 0 (by simp)
  clear h5 hp h2 h3
  obtain ⟨n, hn⟩ : ∃ n, n = rest.length := ⟨_, rfl⟩
  rw [← hn]
  clear hn
  obtain ⟨w1, hw1, hb1, hlt1, hbox⟩ := boxed w #[U (Node.num v), .string (Node.bytes v), .slice a2 (Node.nums v).length p2, .slice a N cap] 36
  have x3 : w1.cell? ⟨w.heap.size, 3, none⟩ = some (.slice a N cap) := hbox 3
  obtain ⟨w2, hw2, hb2, hlt2, g0, g1, gf⟩ := got_make w1 (.int .u64 0) (.int .i64 0) 72
  have hb12 := via hb1 hb2
  replace x3 := (hb2.cell hlt1).trans x3
  replace c0 := (hb12.cell h4).trans c0
  have hG : w.heap.size ≤ w1.heap.size := Nat.le_of_lt hlt1
  have gq0 := fun n x' => got_set0 (w := w2.drewN n) (x' := x') g0
  have gq1 := fun n x' y' => (got_set (w := w2.drewN n) (x' := x') (y' := y') g0 g1).2
  have HBG := hid fun (x' y' : Value) => show Below w.heap.size w ((w2.setCell ⟨w1.heap.size, 0, none⟩ x').setCell ⟨w1.heap.size, 1, none⟩ y') from (hb12.setCell (p := ⟨w1.heap.size, 0, none⟩) hG x').setCell (p := ⟨w1.heap.size, 1, none⟩) hG y'
  clear hbox hb1 hb2 hb12 h4
  generalize hGG : w1.heap.size = G at *
  by_cases h0 : p < 0
  · have hd : decide (p < 0) = true := decide_eq_true h0
    clear hK h0
    go_enter Tryz.func49, Tryz.ntmps49
    go_wp2_with fail
    clear hw1 hw2
    go_quiet (fail)
    go_wp2_with fail
    (try simp only [Exit.inBlock, Exit.then])
    refine bodyPost_ret (by simp [results, Tryz.results49, go_sem, gq0, gq1]; try rfl) rfl ?_
    exact ⟨rfl, below_q HBG.out⟩
  · obtain ⟨j, rfl⟩ : ∃ j : Nat, p = j := ⟨p.toNat, by omega⟩
    have hd : decide ((j : Int) < 0) = false := decide_eq_false (by omega)
    have hd2 : decide (N ≤ j) = true := decide_eq_true (by omega)
    clear hK h0
    go_enter Tryz.func49, Tryz.ntmps49
    go_wp2_with fail
    clear hw1 hw2
    go_quiet (fail)
    go_wp2_with fail
    (try simp only [Exit.inBlock, Exit.then])
    refine bodyPost_ret (by simp [results, Tryz.results49, go_sem, gq0, gq1]; try rfl) rfl ?_
    exact ⟨rfl, below_q HBG.out⟩

theorem rget_any (s : Schema) (hr : rightB s = true) (sa : Option Addr) (sn sc : Nat) : ∀ (d left : Nat), RGetIH s sa sn sc d left := by
  intro d
  induction d with
  | zero => exact fun _ _ v => nomatch v
  | succ d ih =>
    intro left t v cs p rest b off m c w hs ht hc h hm hp
    by_cases h0 : p < 0 ∨ (Node.kids v).length ≤ p.toNat
    · exact rget_k0 s sa sn sc d t v cs p rest b off m c w h hm hp h0
    · obtain ⟨i, rfl⟩ : ∃ i : Nat, p = i := ⟨p.toNat, by omega⟩
      have hi : i < (Node.kids v).length := by omega
      obtain ⟨k, hk⟩ := get_lt hi
      have hkb := ((code_struct hc).2.2.2.2.2 i k hk).1
      by_cases k1 : (fieldP s t i).1 = 1
      · exact rget_k1 s hr sa sn sc d left (ih _) t v cs i rest b off m c w hs ht hc h hm hp hi k1
      by_cases k2 : (fieldP s t i).1 = 2
      · exact rget_k2 s hr sa sn sc d left (ih _) t v cs i rest b off m c w hs ht hc h hm hp hi k2
      by_cases k3 : (fieldP s t i).1 = 3
      · exact rget_k3 s hr sa sn sc d left (ih _) t v cs i rest b off m c w hs ht hc h hm hp hi k3
      rcases hasV_kd hkb k1 k2 k3 with k4 | k5
      · exact rget_k4 s hr sa sn sc d left (ih _) t v cs i rest b off m c w hs ht hc h hm hp hi k4
      · exact rget_k5 s hr sa sn sc d left (ih _) t v cs i rest b off m c w hs ht hc h hm hp hi k5

set_option maxRecDepth 100000 in
set_option maxHeartbeats 8000000 in
/-- The document's Get: the same as tree.Get's. -/
theorem rgetC_any (s : Schema) (sv : Value) (d : Nat) (t : Int) (v : St d) (cs : List Value) (path : List Int) (pv : Value) (w : World) (hs : Sch w sv s) (h : RdS d w cs v) (hp : Ints w pv path) :
    Calls Tryz.prog 22 #[sv, .int .i64 t, .agg cs.toArray, pv] w (RGetR w (getC s d t v path)) := by
  cases d with
  | zero => exact nomatch v
  | succ d =>
    obtain ⟨a2, p2, a, cap, hcs, -⟩ := RdN.open h
    subst hcs
    obtain ⟨sa, sc, hsv, -⟩ := hs.shape
    obtain ⟨sn, hsn⟩ : ∃ n, n = s.length := ⟨_, rfl⟩
    rw [← hsn] at hsv
    subst hsv
    clear hsn
    obtain ⟨w1, hw1, hb1, hlt1, hbox⟩ := boxed w #[U (Node.num v), .string (Node.bytes v), .slice a2 (Node.nums v).length p2, .slice a (Node.kids v).length cap] 36
    have x0 : w1.cell? ⟨w.heap.size, 0, none⟩ = some (U (Node.num v)) := hbox 0
    have x1 : w1.cell? ⟨w.heap.size, 1, none⟩ = some (.string (Node.bytes v)) := hbox 1
    have x2 : w1.cell? ⟨w.heap.size, 2, none⟩ = some (.slice a2 (Node.nums v).length p2) := hbox 2
    have x3 : w1.cell? ⟨w.heap.size, 3, none⟩ = some (.slice a (Node.kids v).length cap) := hbox 3
    obtain ⟨w2, hw2, hb2, hlt2, g0, g1, gf⟩ := got_make w1 (.int .u64 0) (.int .i64 0) 72
    have hb12 := via hb1 hb2
    replace x0 := (hb2.cell hlt1).trans x0
    replace x1 := (hb2.cell hlt1).trans x1
    replace x2 := (hb2.cell hlt1).trans x2
    replace x3 := (hb2.cell hlt1).trans x3
    have hlt12 := Nat.lt_of_lt_of_le hlt1 hb2.size
    have hG : w.heap.size ≤ w1.heap.size := Nat.le_of_lt hlt1
    have hck := hid (rtcheck_any s (.slice sa sn sc) (d + 1) t v _ w2 (hs.below hb12 (Nat.le_refl _)) (h.below hb12 (Nat.le_refl _)))
    have hget := hid fun (hr : rightB s = true) (tn : Nat) (ht : tn < s.length) (hc : codeT s (d + 1) 5 tn v = 0) p rest b off m c W (hW : Below w.heap.size w W) hm hp => rget_any s hr sa sn sc (d + 1) 5 tn v _ p rest b off m c W (hs.below hW (Nat.le_refl _)) ht hc (h.below hW (Nat.le_refl _)) hm hp
    have Hp := hid fun W (hW : Below w.heap.size w W) => hp.below hW (Nat.le_refl _)
    obtain ⟨pa, pc, hpv, _⟩ := hp.open
    obtain ⟨m, hm⟩ : ∃ m, m = path.length := ⟨_, rfl⟩
    rw [← hm] at hpv
    subst hpv
    have Hm := hid hm
    clear hs h hp hbox hm
    obtain ⟨xc, hxc⟩ : ∃ x, x = checkC s (d + 1) t v := ⟨_, rfl⟩
    have Hxc := hid hxc
    rw [← hxc] at hck
    clear hxc
    go_enter Tryz.func22, Tryz.ntmps22
    go_wp2_with fail
    ((refine hck.out.mono ?_); rintro r3 w3 ⟨rfl, hb3⟩)
    clear hw1 hw2 hck
    replace g0 := (hb3.cell hlt2).trans g0
    replace g1 := (hb3.cell hlt2).trans g1
    replace gf := fun j => (hb3.frozen (p := ⟨w1.heap.size, j, none⟩) hlt2).trans (gf j)
    replace x0 := (hb3.cell hlt12).trans x0
    replace x1 := (hb3.cell hlt12).trans x1
    replace x2 := (hb3.cell hlt12).trans x2
    replace x3 := (hb3.cell hlt12).trans x3
    have hlt23 := Nat.lt_of_lt_of_le hlt2 hb3.size
    have hB3 := hb12.trans (hb3.mono hb12.size)
    clear hb3 hb12 hb1 hb2 hlt12 hlt2 hlt1
    generalize w1.heap.size = G at *
    have ge0 := fun x' => got_set0 (x' := x') g0
    have ge1 := fun x' y' => (got_set (x' := x') (y' := y') g0 g1).2
    have HBG := hid fun (x' y' : Value) => show Below w.heap.size w ((w3.setCell ⟨G, 0, none⟩ x').setCell ⟨G, 1, none⟩ y') from (hB3.setCell (p := ⟨G, 0, none⟩) hG x').setCell (p := ⟨G, 1, none⟩) hG y'
    by_cases hx : xc = 0
    · subst hx
      by_cases hm0 : m = 0
      · obtain rfl : path = [] := List.eq_nil_of_length_eq_zero (by rw [← Hm.out]; exact hm0)
        have Hg := hid (show getC s (d + 1) t v [] = (0#64, 1) by rw [getC, if_pos Hxc.out.symm, if_pos rfl])
        subst hm0
        go_wp2_with fail
        (try simp only [Exit.inBlock, Exit.then])
        refine bodyPost_ret (by simp [results, Tryz.results22, go_sem, ge0, ge1]; try rfl) rfl ?_
        exact ⟨by rw [Hg.out]; try rfl, HBG.out _ _⟩
      · obtain ⟨p, rest, hpr⟩ := List.exists_cons_of_ne_nil (l := path) (fun e => hm0 (by rw [Hm.out, e]; rfl))
        have hmz : ((m : Int) == 0) = false := by rw [beq_eq_false_iff_ne]; omega
        have Hg := hid (show getC s (d + 1) t v path = getT s (d + 1) t v (p :: rest) by rw [getC, if_pos Hxc.out.symm, if_neg (by rw [hpr]; simp), hpr])
        have hchk := Hxc.out
        rw [checkC] at hchk
        split at hchk
        · next hc3 =>
          obtain ⟨tn, rfl⟩ : ∃ tn : Nat, t = (tn : Int) := ⟨t.toNat, by omega⟩
          have Hp3 := Hp.out w3 hB3
          rw [hpr] at Hp3
          obtain ⟨b, off, c, e, _⟩ := Row.cons Hp3 (by simp)
          simp only [Value.slice.injEq] at e
          obtain ⟨rfl, -, rfl⟩ := e
          have hcall := hid (hget.out hc3.1 tn (by omega) hchk.symm p rest b off m pc w3 hB3 (by rw [Hm.out, hpr]; rfl) Hp3)
          clear hm0 hpr hc3 hchk Hp3 hget Hp Hxc
          go_wp2_with fail
          ((refine hcall.out.mono ?_); rintro r4 w4 ⟨rfl, hb4⟩)
          have k0 := cell_below g0 hb4
          have k1 := cell_below g1 hb4
          have kf := fun j => (hb4.frozen (p := ⟨G, j, none⟩) hlt23).trans (gf j)
          have e0 := fun x' => got_set0 (x' := x') k0
          have e1 := fun x' y' => (got_set (x' := x') (y' := y') k0 k1).2
          have hfin := hid fun (x' y' : Value) => show Below w.heap.size w ((w4.setCell ⟨G, 0, none⟩ x').setCell ⟨G, 1, none⟩ y') from ((hB3.trans (hb4.mono hB3.size)).setCell (p := ⟨G, 0, none⟩) hG x').setCell (p := ⟨G, 1, none⟩) hG y'
          clear hcall hb4 g0 g1 gf ge0 ge1 HBG x0 x1 x2 x3
          go_wp2_with fail
          (try simp only [Exit.inBlock, Exit.then])
          refine bodyPost_ret (by simp [results, Tryz.results22, go_sem, e0, e1]; try rfl) rfl ?_
          exact ⟨by rw [Hg.out], hfin.out _ _⟩
        · exact absurd hchk (by decide)
    · have hxb : (xc != 0) = true := by simpa using hx
      have hxb2 : (xc == 0) = false := by simpa using hx
      have Hg := hid (show getC s (d + 1) t v path = (0#64, xc) by rw [getC, if_neg (by rw [← Hxc.out]; exact hx), Hxc.out])
      clear hx
      go_wp2_with fail
      (try simp only [Exit.inBlock, Exit.then])
      refine bodyPost_ret (by simp [results, Tryz.results22, go_sem, ge0, ge1]; try rfl) rfl ?_
      exact ⟨by rw [Hg.out]; try rfl, HBG.out _ _⟩
end SRGetC

end Go.Proofs.YtogaclolodlnbaaGreatDoor


/- tree.get of a path whose first number is no field, or one of kinds 1 to 3, or of no kind. -/
import Derived.Test.YtogaclolodlnbaaDoorTrGetA
set_option linter.unusedVariables false
set_option linter.unusedSimpArgs false
namespace Go.Proofs.YtogaclolodlnbaaDoor
section STrGKA
open Go.RowKit

set_option maxRecDepth 100000 in
set_option maxHeartbeats 40000000 in
theorem get_k0 (s : Schema) (sa : Option Addr) (sn sc : Nat) (d : Nat) (ihd : GetIH s sa sn sc d) : ∀ (t : Int) (v : St (d + 1)) (cs : List Value) (p : Int) (rest : List Int) (b off m c : Nat) (w : World), Sch w (.slice sa sn sc) s → RdS (d + 1) w cs v →
    m = rest.length + 1 → Ints w (.slice (some ⟨b, off, none⟩) m c) (p :: rest) → (p < 0 ∨ (Node.kids v).length ≤ p.toNat) →
    Calls Tryd.prog 98 #[.slice sa sn sc, .int .i64 t, .agg cs.toArray, .slice (some ⟨b, off, none⟩) m c] w (GetR w (getT s (d + 1) t v (p :: rest))) := by
  intro t v cs p rest b off m c w hs h hm hp hK
  have ih : Hid (∀ (t : Int) (v : St d) (cs : List Value) (p : Int) (rest : List Int) (b off m c : Nat) (w : World), Sch w (.slice sa sn sc) s → RdS d w cs v → m = rest.length + 1 → Ints w (.slice (some ⟨b, off, none⟩) m c) (p :: rest) → Calls Tryd.prog 98 #[.slice sa sn sc, .int .i64 t, .agg cs.toArray, .slice (some ⟨b, off, none⟩) m c] w (GetR w (getT s d t v (p :: rest)))) := hid ihd
  obtain ⟨a2, p2, a, cap, rfl, hbs, hn, hk, hnm, hkm⟩ := RdN.open h
  clear h hn
  obtain ⟨N, hN⟩ : ∃ N, N = (Node.kids v).length := ⟨_, rfl⟩
  rw [← hN] at hk hkm hK ⊢
  have HN := hid hN
  clear hN
  obtain ⟨o2, ho2, htail⟩ := Ints.behind hp hm
  obtain ⟨c9, hc9⟩ : ∃ x, c - 1 = x := ⟨_, rfl⟩
  rw [hc9] at htail
  obtain ⟨n, hnl⟩ : ∃ n, n = rest.length := ⟨_, rfl⟩
  rw [← hnl] at hm htail
  have Hn := hid hnl
  clear hnl
  subst hm
  obtain ⟨b', off', c', e, h2, h3, h4, h5⟩ := Row.cons hp (by simp)
  have h6 := hp.most
  simp only [Value.slice.injEq, Option.some.injEq, Addr.mk.injEq] at e
  obtain ⟨⟨rfl, rfl, _⟩, em, rfl⟩ := e
  clear em
  have c0 : w.cell? ⟨b, off, none⟩ = some (.int .i64 p) := h5 0 (by simp)
  clear h5 hp
  obtain ⟨w0, hw0, hb0, hlt0, hbox0⟩ := boxed w #[.slice sa sn sc] 27
  have s0 : w0.cell? ⟨w.heap.size, 0, none⟩ = some (.slice sa sn sc) := hbox0 0
  obtain ⟨w1, hw1, hb1, hlt1, hbox⟩ := boxed w0 #[U (Node.num v), .string (Node.bytes v), .slice a2 (Node.nums v).length p2, .slice a N cap] 49
  have x3 : w1.cell? ⟨w0.heap.size, 3, none⟩ = some (.slice a N cap) := hbox 3
  have c1 : w1.cell? ⟨b, off, none⟩ = some (.int .i64 p) := (hb1.cell (Nat.lt_of_lt_of_le h4 hb0.size)).trans ((hb0.cell h4).trans c0)
  have s1 : w1.cell? ⟨w.heap.size, 0, none⟩ = some (.slice sa sn sc) := (hb1.cell hlt0).trans s0
  have hb01 := via hb0 hb1
  have hs1 := hs.below hb01 (Nat.le_refl _)
  have hk1 := hk.below (kept_N (kept_S d)) hb01 (Nat.le_refl _)
  have ht1 := htail.below hb01 (Nat.le_refl _)
  clear hbox hbox0 hs hk htail c0 s0
  have hn1 : (1 : Int) ≤ (n : Int) + 1 := by omega
  have h41 : b < w1.heap.size := Nat.lt_of_lt_of_le (Nat.lt_of_lt_of_le h4 hb0.size) hb1.size
  by_cases hneg : p < 0
  · have Hg := hid (show getT s (d + 1) t v (p :: rest) = (0#64, 1) by rw [getT]; exact if_pos hneg)
    have hd : decide (p < 0) = true := decide_eq_true hneg
    clear hneg
    rw [Hg.out]
    go_enter Tryd.func98, Tryd.ntmps98
    go_wp2_with fail
    clear hw0 hw1
    go_quiet (fail)
    go_wp2_with fail
    go_returns
    exact ⟨rfl, hb01.trans (below_drewN _ _ _)⟩
  · obtain ⟨i, rfl⟩ : ∃ i : Nat, p = i := ⟨p.toNat, by omega⟩
    by_cases hi : i < N
    · exfalso; rw [Int.toNat_natCast] at hK; omega
    · have Hg := hid (show getT s (d + 1) t v ((i : Int) :: rest) = (0#64, 1) by
        rw [getT, List.headD_cons, if_neg hneg, Int.toNat_natCast, List.getElem?_eq_none (by rw [← HN.out]; omega)])
      have hd : decide ((i : Int) < 0) = false := decide_eq_false hneg
      have hd2 : decide (N ≤ i) = true := decide_eq_true (by omega)
      clear hneg hi
      rw [Hg.out]
      go_enter Tryd.func98, Tryd.ntmps98
      go_wp2_with fail
      clear hw0 hw1
      go_quiet (fail)
      go_wp2_with fail
      go_returns
      exact ⟨rfl, hb01.trans (below_drewN _ _ _)⟩

set_option maxRecDepth 100000 in
set_option maxHeartbeats 40000000 in
theorem get_k1 (s : Schema) (sa : Option Addr) (sn sc : Nat) (d : Nat) (ihd : GetIH s sa sn sc d) : ∀ (t : Int) (v : St (d + 1)) (cs : List Value) (p : Int) (rest : List Int) (b off m c : Nat) (w : World), Sch w (.slice sa sn sc) s → RdS (d + 1) w cs v →
    m = rest.length + 1 → Ints w (.slice (some ⟨b, off, none⟩) m c) (p :: rest) → (0 ≤ p ∧ p.toNat < (Node.kids v).length ∧ (fieldP s t p.toNat).1 = 1) →
    Calls Tryd.prog 98 #[.slice sa sn sc, .int .i64 t, .agg cs.toArray, .slice (some ⟨b, off, none⟩) m c] w (GetR w (getT s (d + 1) t v (p :: rest))) := by
  intro t v cs p rest b off m c w hs h hm hp hK
  have ih : Hid (∀ (t : Int) (v : St d) (cs : List Value) (p : Int) (rest : List Int) (b off m c : Nat) (w : World), Sch w (.slice sa sn sc) s → RdS d w cs v → m = rest.length + 1 → Ints w (.slice (some ⟨b, off, none⟩) m c) (p :: rest) → Calls Tryd.prog 98 #[.slice sa sn sc, .int .i64 t, .agg cs.toArray, .slice (some ⟨b, off, none⟩) m c] w (GetR w (getT s d t v (p :: rest)))) := hid ihd
  obtain ⟨a2, p2, a, cap, rfl, hbs, hn, hk, hnm, hkm⟩ := RdN.open h
  clear h hn
  obtain ⟨N, hN⟩ : ∃ N, N = (Node.kids v).length := ⟨_, rfl⟩
  rw [← hN] at hk hkm hK ⊢
  have HN := hid hN
  clear hN
  obtain ⟨o2, ho2, htail⟩ := Ints.behind hp hm
  obtain ⟨c9, hc9⟩ : ∃ x, c - 1 = x := ⟨_, rfl⟩
  rw [hc9] at htail
  obtain ⟨n, hnl⟩ : ∃ n, n = rest.length := ⟨_, rfl⟩
  rw [← hnl] at hm htail
  have Hn := hid hnl
  clear hnl
  subst hm
  obtain ⟨b', off', c', e, h2, h3, h4, h5⟩ := Row.cons hp (by simp)
  have h6 := hp.most
  simp only [Value.slice.injEq, Option.some.injEq, Addr.mk.injEq] at e
  obtain ⟨⟨rfl, rfl, _⟩, em, rfl⟩ := e
  clear em
  have c0 : w.cell? ⟨b, off, none⟩ = some (.int .i64 p) := h5 0 (by simp)
  clear h5 hp
  obtain ⟨w0, hw0, hb0, hlt0, hbox0⟩ := boxed w #[.slice sa sn sc] 27
  have s0 : w0.cell? ⟨w.heap.size, 0, none⟩ = some (.slice sa sn sc) := hbox0 0
  obtain ⟨w1, hw1, hb1, hlt1, hbox⟩ := boxed w0 #[U (Node.num v), .string (Node.bytes v), .slice a2 (Node.nums v).length p2, .slice a N cap] 49
  have x3 : w1.cell? ⟨w0.heap.size, 3, none⟩ = some (.slice a N cap) := hbox 3
  have c1 : w1.cell? ⟨b, off, none⟩ = some (.int .i64 p) := (hb1.cell (Nat.lt_of_lt_of_le h4 hb0.size)).trans ((hb0.cell h4).trans c0)
  have s1 : w1.cell? ⟨w.heap.size, 0, none⟩ = some (.slice sa sn sc) := (hb1.cell hlt0).trans s0
  have hb01 := via hb0 hb1
  have hs1 := hs.below hb01 (Nat.le_refl _)
  have hk1 := hk.below (kept_N (kept_S d)) hb01 (Nat.le_refl _)
  have ht1 := htail.below hb01 (Nat.le_refl _)
  clear hbox hbox0 hs hk htail c0 s0
  have hn1 : (1 : Int) ≤ (n : Int) + 1 := by omega
  have h41 : b < w1.heap.size := Nat.lt_of_lt_of_le (Nat.lt_of_lt_of_le h4 hb0.size) hb1.size
  by_cases hneg : p < 0
  · exact absurd hK.1 (by omega)
  · obtain ⟨i, rfl⟩ : ∃ i : Nat, p = i := ⟨p.toNat, by omega⟩
    have hKk := hK.2.2
    rw [Int.toNat_natCast] at hKk
    have hi : i < N := by have := hK.2.1; rw [Int.toNat_natCast] at this; exact this
    clear hK
    have hKi := hid hKk
    clear hKk
    obtain ⟨fk, hfk⟩ := get_lt (l := Node.kids v) (i := i) (by rw [← HN.out]; exact hi)
    obtain ⟨bf, of, a4, p4, a5, p5, rfl, hbb, q0, q1, q2, q3, hfb, hfn, hfkk, _, hfnn, hfm⟩ := Kids.at_ hk1 hfk
    obtain ⟨M, hM⟩ : ∃ M, M = fk.kids.length := ⟨_, rfl⟩
    obtain ⟨R, hR⟩ : ∃ R, R = fk.nums.length := ⟨_, rfl⟩
    rw [← hM] at hfkk hfm q3
    rw [← hR] at hfnn q2
    have hfn' : Row w1 1 (.slice a4 R p4) fk.nums.length (fk.nums.map U) := by rw [hR]; exact hfn
    have HM := hid hM
    have HR := hid hR
    have Hg := hid (show getT s (d + 1) t v ((i : Int) :: rest) = getF s (fun x r => getT s d (fieldP s t i).2 x r) (fieldP s t i).1 (fieldP s t i).2 fk rest by
      rw [getT, List.headD_cons, if_neg hneg, Int.toNat_natCast, hfk]; rfl)
    have hd : decide ((i : Int) < 0) = false := decide_eq_false hneg
    have hd2 : decide (N ≤ i) = false := decide_eq_false (by omega)
    clear hM hR hfk hfn hneg hk1
    rw [Hg.out]
    have Hkind := fun W (hW : Below w1.heap.size w1 W) => kind_any s (.slice sa sn sc) t i W (hs1.below hW (Nat.le_refl _))
    have Htype := fun W (hW : Below w1.heap.size w1 W) => type_any s (.slice sa sn sc) t i W (hs1.below hW (Nat.le_refl _))
    generalize (fieldP s t i).1 = kd at *
    generalize (fieldP s t i).2 = ty at *
    go_enter Tryd.func98, Tryd.ntmps98
    go_wp2_with fail
    go_quiet (fail)
    go_wp2_with fail
    have hzp : ∀ nq B j, B < w1.heap.size → ((w1.drewN nq).alloc (.cells #[.int .u64 0, .string { data := #[] }, .slice none 0 0, .slice none 0 0] 49)).cell? ⟨B, j, none⟩ = w1.cell? ⟨B, j, none⟩ := fun nq B j h => World.cell?_alloc_past _ _ _ h
    have z0 : ∀ nq, ((w1.drewN nq).alloc (.cells #[.int .u64 0, .string { data := #[] }, .slice none 0 0, .slice none 0 0] 49)).cell? ⟨w1.heap.size, 0, none⟩ = some (.int .u64 0) := fun nq => World.cell?_alloc_at _ _ _ _ rfl
    have z1 : ∀ nq, ((w1.drewN nq).alloc (.cells #[.int .u64 0, .string { data := #[] }, .slice none 0 0, .slice none 0 0] 49)).cell? ⟨w1.heap.size, 1, none⟩ = some (.string { data := #[] }) := fun nq => World.cell?_alloc_at _ _ _ _ rfl
    have z2 : ∀ nq, ((w1.drewN nq).alloc (.cells #[.int .u64 0, .string { data := #[] }, .slice none 0 0, .slice none 0 0] 49)).cell? ⟨w1.heap.size, 2, none⟩ = some (.slice none 0 0) := fun nq => World.cell?_alloc_at _ _ _ _ rfl
    have z3 : ∀ nq, ((w1.drewN nq).alloc (.cells #[.int .u64 0, .string { data := #[] }, .slice none 0 0, .slice none 0 0] 49)).cell? ⟨w1.heap.size, 3, none⟩ = some (.slice none 0 0) := fun nq => World.cell?_alloc_at _ _ _ _ rfl
    have zf : ∀ nq j, ((w1.drewN nq).alloc (.cells #[.int .u64 0, .string { data := #[] }, .slice none 0 0, .slice none 0 0] 49)).frozen? ⟨w1.heap.size, j, none⟩ = false := fun nq j => World.frozen?_alloc_at _ _ _ _ rfl
    have zc := fun nq => (hzp nq b off h41).trans c1
    have zq0 := fun nq => (hzp nq bf (of + i * 4) hbb).trans q0
    have zq1 := fun nq => (hzp nq bf (of + i * 4 + 1) hbb).trans q1
    have zq2 := fun nq => (hzp nq bf (of + i * 4 + 2) hbb).trans q2
    have zq3 := fun nq => (hzp nq bf (of + i * 4 + 3) hbb).trans q3
    have zx := fun nq => (hzp nq w0.heap.size 3 hlt1).trans x3
    have hneb : b ≠ w1.heap.size := by omega
    have zs : ∀ nq, ((((((w1.drewN nq).alloc (.cells #[.int .u64 0, .string { data := #[] }, .slice none 0 0, .slice none 0 0] 49)).setCell ⟨w1.heap.size, 0, none⟩ (U fk.num)).setCell ⟨w1.heap.size, 1, none⟩ (.string fk.bytes)).setCell ⟨w1.heap.size, 2, none⟩ (.slice a4 R p4)).setCell ⟨w1.heap.size, 3, none⟩ (.slice a5 M p5)).cell? ⟨b, off, none⟩ = some (.int .i64 i) := fun nq => by
      rw [World.cell?_setCell_other _ _ _ _ (by simp), World.cell?_setCell_other _ _ _ _ (by simp), World.cell?_setCell_other _ _ _ _ (by simp), World.cell?_setCell_other _ _ _ _ (by simp)]
      exact zc nq
    clear hzp
    go_region
    obtain ⟨W, hW, hbW, ltW, d0, d1, d2, d3⟩ := tree_copy w1 (nq + 1) (U fk.num) (.string fk.bytes) (.slice a4 R p4) (.slice a5 M p5)
    rw [hW]
    clear zc zq0 zq1 zq2 zq3 zx zs z0 z1 z2 z3 zf hW hw0 hw1 q0 q1 q2 q3 hneb x3 c1 hd hd2
    have sW : W.cell? ⟨w.heap.size, 0, none⟩ = some (.slice sa sn sc) := (hbW.cell (Nat.lt_of_lt_of_le hlt0 hb1.size)).trans s1
    have HT := Htype W hbW
    go_wp2_with (first
      | (go_at_call 64; refine HT.mono ?_; rintro r1 W2 ⟨rfl, hb2⟩; obtain ⟨W3, hW3, hb3, lt3, box3⟩ := boxed W2 #[.int .i64 ty] 3; have i3 : W3.cell? ⟨W2.heap.size, 0, none⟩ = some (.int .i64 ty) := box3 0; have hb23 : Below W.heap.size W W3 := hb2.trans (hb3.mono hb2.size); have s3 : W3.cell? ⟨w.heap.size, 0, none⟩ = some (.slice sa sn sc) := (hb23.cell (Nat.lt_of_lt_of_le (Nat.lt_of_lt_of_le hlt0 hb1.size) hbW.size)).trans sW; have HK := Hkind W3 (hbW.trans (hb23.mono hbW.size))))
    ((refine HK.mono ?_); rintro r1 W4 ⟨rfl, hb4⟩)
    have hb24 : Below W.heap.size W W4 := hb23.trans (hb4.mono hb23.size)
    have hb14 : Below w1.heap.size w1 W4 := hbW.trans (hb24.mono hbW.size)
    replace s3 := (hb4.cell (Nat.lt_of_lt_of_le (Nat.lt_of_lt_of_le (Nat.lt_of_lt_of_le hlt0 hb1.size) hbW.size) hb23.size)).trans s3
    replace i3 := (hb4.cell lt3).trans i3
    replace d0 := (hb24.cell ltW).trans d0
    replace d1 := (hb24.cell ltW).trans d1
    replace d2 := (hb24.cell ltW).trans d2
    replace d3 := (hb24.cell ltW).trans d3
    have hp4 := ht1.below hb14 (Nat.le_refl _)
    have hk4 := hfkk.below (kept_S d) hb14 (Nat.le_refl _)
    have hn4 := hfn'.below hb14 (Nat.le_refl _)
    have hs4 := hs1.below hb14 (Nat.le_refl _)
    have hB4 := hb01.trans (hb14.mono hb01.size)
    generalize w1.heap.size = D at d0 d1 d2 d3 ⊢
    generalize W2.heap.size = Q at *
    clear hW3 hb3 box3 hb23 HK HT hbW ltW sW s1 hs1 ht1 hb01 hb24 hb14 hb4 hb2 Hkind Htype hbb hfkk hfn'
    have HpB := pickB_any (.pointer (some ⟨D, 0, none⟩)) fk.bytes.size (byteV fk.bytes) rest (some ⟨b, o2, none⟩) n c9 W4 hfb Hn.out hp4 (fun j hj => getB_any D fk.bytes j hj W4 d1)
    have HpN := pickN_any (.pointer (some ⟨D, 0, none⟩)) R (fun j => fk.nums.getD j 0#64) rest (some ⟨b, o2, none⟩) n c9 W4 hfnn Hn.out hp4 (fun j hj => getN_any D fk.nums a4 R p4 HR.out j (by rw [← HR.out]; exact hj) W4 d2 hn4)
    have HpK := pickK_any (.pointer (some ⟨w.heap.size, 0, none⟩)) (.pointer (some ⟨Q, 0, none⟩)) M (fun _ => BitVec.ofNat 64 (typeL s ty).length) rest (some ⟨b, o2, none⟩) n c9 W4 hfm Hn.out hp4 (fun j hj => getK_any w.heap.size Q s (.slice sa sn sc) ty j W4 s3 i3 hs4)
    have HpKd := fun k => pickK_any (.pointer (some ⟨w.heap.size, 0, none⟩)) (.pointer (some ⟨Q, 0, none⟩)) M (fun _ => BitVec.ofNat 64 (typeL s ty).length) rest (some ⟨b, o2, none⟩) n c9 (W4.drewN k) hfm Hn.out hp4.drewN (fun j hj => getK_any w.heap.size Q s (.slice sa sn sc) ty j (W4.drewN k) s3 i3 hs4.drewN)
    have hKo := hKi.out
    clear hKi
    subst hKo
    by_cases hr : rest = []
    · have hr' := hr
      obtain rfl : n = 0 := by rw [Hn.out, hr]; rfl
      have Hv := hid (show getF s (fun x r => getT s d ty x r) 1 ty fk rest = (fk.num, 0) by simp only [getF]; rw [if_pos trivial, if_pos hr])
      go_wp2_with fail
      go_returns
      exact ⟨by rw [Hv.out]; rfl, hB4⟩
    · have hr' := hr
      have hn0 : 0 < n := by rw [Hn.out]; exact List.length_pos_iff.2 hr
      have hnd : decide ((0 : Int) < (n : Int)) = true := decide_eq_true (by omega)
      have Hv := hid (show getF s (fun x r => getT s d ty x r) 1 ty fk rest = (0#64, 24) by simp only [getF]; rw [if_pos trivial, if_neg hr])
      go_wp2_with fail
      go_returns
      exact ⟨by rw [Hv.out]; rfl, hB4⟩

set_option maxRecDepth 100000 in
set_option maxHeartbeats 40000000 in
theorem get_k2 (s : Schema) (sa : Option Addr) (sn sc : Nat) (d : Nat) (ihd : GetIH s sa sn sc d) : ∀ (t : Int) (v : St (d + 1)) (cs : List Value) (p : Int) (rest : List Int) (b off m c : Nat) (w : World), Sch w (.slice sa sn sc) s → RdS (d + 1) w cs v →
    m = rest.length + 1 → Ints w (.slice (some ⟨b, off, none⟩) m c) (p :: rest) → (0 ≤ p ∧ p.toNat < (Node.kids v).length ∧ (fieldP s t p.toNat).1 = 2) →
    Calls Tryd.prog 98 #[.slice sa sn sc, .int .i64 t, .agg cs.toArray, .slice (some ⟨b, off, none⟩) m c] w (GetR w (getT s (d + 1) t v (p :: rest))) := by
  intro t v cs p rest b off m c w hs h hm hp hK
  have ih : Hid (∀ (t : Int) (v : St d) (cs : List Value) (p : Int) (rest : List Int) (b off m c : Nat) (w : World), Sch w (.slice sa sn sc) s → RdS d w cs v → m = rest.length + 1 → Ints w (.slice (some ⟨b, off, none⟩) m c) (p :: rest) → Calls Tryd.prog 98 #[.slice sa sn sc, .int .i64 t, .agg cs.toArray, .slice (some ⟨b, off, none⟩) m c] w (GetR w (getT s d t v (p :: rest)))) := hid ihd
  obtain ⟨a2, p2, a, cap, rfl, hbs, hn, hk, hnm, hkm⟩ := RdN.open h
  clear h hn
  obtain ⟨N, hN⟩ : ∃ N, N = (Node.kids v).length := ⟨_, rfl⟩
  rw [← hN] at hk hkm hK ⊢
  have HN := hid hN
  clear hN
  obtain ⟨o2, ho2, htail⟩ := Ints.behind hp hm
  obtain ⟨c9, hc9⟩ : ∃ x, c - 1 = x := ⟨_, rfl⟩
  rw [hc9] at htail
  obtain ⟨n, hnl⟩ : ∃ n, n = rest.length := ⟨_, rfl⟩
  rw [← hnl] at hm htail
  have Hn := hid hnl
  clear hnl
  subst hm
  obtain ⟨b', off', c', e, h2, h3, h4, h5⟩ := Row.cons hp (by simp)
  have h6 := hp.most
  simp only [Value.slice.injEq, Option.some.injEq, Addr.mk.injEq] at e
  obtain ⟨⟨rfl, rfl, _⟩, em, rfl⟩ := e
  clear em
  have c0 : w.cell? ⟨b, off, none⟩ = some (.int .i64 p) := h5 0 (by simp)
  clear h5 hp
  obtain ⟨w0, hw0, hb0, hlt0, hbox0⟩ := boxed w #[.slice sa sn sc] 27
  have s0 : w0.cell? ⟨w.heap.size, 0, none⟩ = some (.slice sa sn sc) := hbox0 0
  obtain ⟨w1, hw1, hb1, hlt1, hbox⟩ := boxed w0 #[U (Node.num v), .string (Node.bytes v), .slice a2 (Node.nums v).length p2, .slice a N cap] 49
  have x3 : w1.cell? ⟨w0.heap.size, 3, none⟩ = some (.slice a N cap) := hbox 3
  have c1 : w1.cell? ⟨b, off, none⟩ = some (.int .i64 p) := (hb1.cell (Nat.lt_of_lt_of_le h4 hb0.size)).trans ((hb0.cell h4).trans c0)
  have s1 : w1.cell? ⟨w.heap.size, 0, none⟩ = some (.slice sa sn sc) := (hb1.cell hlt0).trans s0
  have hb01 := via hb0 hb1
  have hs1 := hs.below hb01 (Nat.le_refl _)
  have hk1 := hk.below (kept_N (kept_S d)) hb01 (Nat.le_refl _)
  have ht1 := htail.below hb01 (Nat.le_refl _)
  clear hbox hbox0 hs hk htail c0 s0
  have hn1 : (1 : Int) ≤ (n : Int) + 1 := by omega
  have h41 : b < w1.heap.size := Nat.lt_of_lt_of_le (Nat.lt_of_lt_of_le h4 hb0.size) hb1.size
  by_cases hneg : p < 0
  · exact absurd hK.1 (by omega)
  · obtain ⟨i, rfl⟩ : ∃ i : Nat, p = i := ⟨p.toNat, by omega⟩
    have hKk := hK.2.2
    rw [Int.toNat_natCast] at hKk
    have hi : i < N := by have := hK.2.1; rw [Int.toNat_natCast] at this; exact this
    clear hK
    have hKi := hid hKk
    clear hKk
    obtain ⟨fk, hfk⟩ := get_lt (l := Node.kids v) (i := i) (by rw [← HN.out]; exact hi)
    obtain ⟨bf, of, a4, p4, a5, p5, rfl, hbb, q0, q1, q2, q3, hfb, hfn, hfkk, _, hfnn, hfm⟩ := Kids.at_ hk1 hfk
    obtain ⟨M, hM⟩ : ∃ M, M = fk.kids.length := ⟨_, rfl⟩
    obtain ⟨R, hR⟩ : ∃ R, R = fk.nums.length := ⟨_, rfl⟩
    rw [← hM] at hfkk hfm q3
    rw [← hR] at hfnn q2
    have hfn' : Row w1 1 (.slice a4 R p4) fk.nums.length (fk.nums.map U) := by rw [hR]; exact hfn
    have HM := hid hM
    have HR := hid hR
    have Hg := hid (show getT s (d + 1) t v ((i : Int) :: rest) = getF s (fun x r => getT s d (fieldP s t i).2 x r) (fieldP s t i).1 (fieldP s t i).2 fk rest by
      rw [getT, List.headD_cons, if_neg hneg, Int.toNat_natCast, hfk]; rfl)
    have hd : decide ((i : Int) < 0) = false := decide_eq_false hneg
    have hd2 : decide (N ≤ i) = false := decide_eq_false (by omega)
    clear hM hR hfk hfn hneg hk1
    rw [Hg.out]
    have Hkind := fun W (hW : Below w1.heap.size w1 W) => kind_any s (.slice sa sn sc) t i W (hs1.below hW (Nat.le_refl _))
    have Htype := fun W (hW : Below w1.heap.size w1 W) => type_any s (.slice sa sn sc) t i W (hs1.below hW (Nat.le_refl _))
    generalize (fieldP s t i).1 = kd at *
    generalize (fieldP s t i).2 = ty at *
    go_enter Tryd.func98, Tryd.ntmps98
    go_wp2_with fail
    go_quiet (fail)
    go_wp2_with fail
    have hzp : ∀ nq B j, B < w1.heap.size → ((w1.drewN nq).alloc (.cells #[.int .u64 0, .string { data := #[] }, .slice none 0 0, .slice none 0 0] 49)).cell? ⟨B, j, none⟩ = w1.cell? ⟨B, j, none⟩ := fun nq B j h => World.cell?_alloc_past _ _ _ h
    have z0 : ∀ nq, ((w1.drewN nq).alloc (.cells #[.int .u64 0, .string { data := #[] }, .slice none 0 0, .slice none 0 0] 49)).cell? ⟨w1.heap.size, 0, none⟩ = some (.int .u64 0) := fun nq => World.cell?_alloc_at _ _ _ _ rfl
    have z1 : ∀ nq, ((w1.drewN nq).alloc (.cells #[.int .u64 0, .string { data := #[] }, .slice none 0 0, .slice none 0 0] 49)).cell? ⟨w1.heap.size, 1, none⟩ = some (.string { data := #[] }) := fun nq => World.cell?_alloc_at _ _ _ _ rfl
    have z2 : ∀ nq, ((w1.drewN nq).alloc (.cells #[.int .u64 0, .string { data := #[] }, .slice none 0 0, .slice none 0 0] 49)).cell? ⟨w1.heap.size, 2, none⟩ = some (.slice none 0 0) := fun nq => World.cell?_alloc_at _ _ _ _ rfl
    have z3 : ∀ nq, ((w1.drewN nq).alloc (.cells #[.int .u64 0, .string { data := #[] }, .slice none 0 0, .slice none 0 0] 49)).cell? ⟨w1.heap.size, 3, none⟩ = some (.slice none 0 0) := fun nq => World.cell?_alloc_at _ _ _ _ rfl
    have zf : ∀ nq j, ((w1.drewN nq).alloc (.cells #[.int .u64 0, .string { data := #[] }, .slice none 0 0, .slice none 0 0] 49)).frozen? ⟨w1.heap.size, j, none⟩ = false := fun nq j => World.frozen?_alloc_at _ _ _ _ rfl
    have zc := fun nq => (hzp nq b off h41).trans c1
    have zq0 := fun nq => (hzp nq bf (of + i * 4) hbb).trans q0
    have zq1 := fun nq => (hzp nq bf (of + i * 4 + 1) hbb).trans q1
    have zq2 := fun nq => (hzp nq bf (of + i * 4 + 2) hbb).trans q2
    have zq3 := fun nq => (hzp nq bf (of + i * 4 + 3) hbb).trans q3
    have zx := fun nq => (hzp nq w0.heap.size 3 hlt1).trans x3
    have hneb : b ≠ w1.heap.size := by omega
    have zs : ∀ nq, ((((((w1.drewN nq).alloc (.cells #[.int .u64 0, .string { data := #[] }, .slice none 0 0, .slice none 0 0] 49)).setCell ⟨w1.heap.size, 0, none⟩ (U fk.num)).setCell ⟨w1.heap.size, 1, none⟩ (.string fk.bytes)).setCell ⟨w1.heap.size, 2, none⟩ (.slice a4 R p4)).setCell ⟨w1.heap.size, 3, none⟩ (.slice a5 M p5)).cell? ⟨b, off, none⟩ = some (.int .i64 i) := fun nq => by
      rw [World.cell?_setCell_other _ _ _ _ (by simp), World.cell?_setCell_other _ _ _ _ (by simp), World.cell?_setCell_other _ _ _ _ (by simp), World.cell?_setCell_other _ _ _ _ (by simp)]
      exact zc nq
    clear hzp
    go_region
    obtain ⟨W, hW, hbW, ltW, d0, d1, d2, d3⟩ := tree_copy w1 (nq + 1) (U fk.num) (.string fk.bytes) (.slice a4 R p4) (.slice a5 M p5)
    rw [hW]
    clear zc zq0 zq1 zq2 zq3 zx zs z0 z1 z2 z3 zf hW hw0 hw1 q0 q1 q2 q3 hneb x3 c1 hd hd2
    have sW : W.cell? ⟨w.heap.size, 0, none⟩ = some (.slice sa sn sc) := (hbW.cell (Nat.lt_of_lt_of_le hlt0 hb1.size)).trans s1
    have HT := Htype W hbW
    go_wp2_with (first
      | (go_at_call 64; refine HT.mono ?_; rintro r1 W2 ⟨rfl, hb2⟩; obtain ⟨W3, hW3, hb3, lt3, box3⟩ := boxed W2 #[.int .i64 ty] 3; have i3 : W3.cell? ⟨W2.heap.size, 0, none⟩ = some (.int .i64 ty) := box3 0; have hb23 : Below W.heap.size W W3 := hb2.trans (hb3.mono hb2.size); have s3 : W3.cell? ⟨w.heap.size, 0, none⟩ = some (.slice sa sn sc) := (hb23.cell (Nat.lt_of_lt_of_le (Nat.lt_of_lt_of_le hlt0 hb1.size) hbW.size)).trans sW; have HK := Hkind W3 (hbW.trans (hb23.mono hbW.size))))
    ((refine HK.mono ?_); rintro r1 W4 ⟨rfl, hb4⟩)
    have hb24 : Below W.heap.size W W4 := hb23.trans (hb4.mono hb23.size)
    have hb14 : Below w1.heap.size w1 W4 := hbW.trans (hb24.mono hbW.size)
    replace s3 := (hb4.cell (Nat.lt_of_lt_of_le (Nat.lt_of_lt_of_le (Nat.lt_of_lt_of_le hlt0 hb1.size) hbW.size) hb23.size)).trans s3
    replace i3 := (hb4.cell lt3).trans i3
    replace d0 := (hb24.cell ltW).trans d0
    replace d1 := (hb24.cell ltW).trans d1
    replace d2 := (hb24.cell ltW).trans d2
    replace d3 := (hb24.cell ltW).trans d3
    have hp4 := ht1.below hb14 (Nat.le_refl _)
    have hk4 := hfkk.below (kept_S d) hb14 (Nat.le_refl _)
    have hn4 := hfn'.below hb14 (Nat.le_refl _)
    have hs4 := hs1.below hb14 (Nat.le_refl _)
    have hB4 := hb01.trans (hb14.mono hb01.size)
    generalize w1.heap.size = D at d0 d1 d2 d3 ⊢
    generalize W2.heap.size = Q at *
    clear hW3 hb3 box3 hb23 HK HT hbW ltW sW s1 hs1 ht1 hb01 hb24 hb14 hb4 hb2 Hkind Htype hbb hfkk hfn'
    have HpB := pickB_any (.pointer (some ⟨D, 0, none⟩)) fk.bytes.size (byteV fk.bytes) rest (some ⟨b, o2, none⟩) n c9 W4 hfb Hn.out hp4 (fun j hj => getB_any D fk.bytes j hj W4 d1)
    have HpN := pickN_any (.pointer (some ⟨D, 0, none⟩)) R (fun j => fk.nums.getD j 0#64) rest (some ⟨b, o2, none⟩) n c9 W4 hfnn Hn.out hp4 (fun j hj => getN_any D fk.nums a4 R p4 HR.out j (by rw [← HR.out]; exact hj) W4 d2 hn4)
    have HpK := pickK_any (.pointer (some ⟨w.heap.size, 0, none⟩)) (.pointer (some ⟨Q, 0, none⟩)) M (fun _ => BitVec.ofNat 64 (typeL s ty).length) rest (some ⟨b, o2, none⟩) n c9 W4 hfm Hn.out hp4 (fun j hj => getK_any w.heap.size Q s (.slice sa sn sc) ty j W4 s3 i3 hs4)
    have HpKd := fun k => pickK_any (.pointer (some ⟨w.heap.size, 0, none⟩)) (.pointer (some ⟨Q, 0, none⟩)) M (fun _ => BitVec.ofNat 64 (typeL s ty).length) rest (some ⟨b, o2, none⟩) n c9 (W4.drewN k) hfm Hn.out hp4.drewN (fun j hj => getK_any w.heap.size Q s (.slice sa sn sc) ty j (W4.drewN k) s3 i3 hs4.drewN)
    have hKo := hKi.out
    clear hKi
    subst hKo
    have Hv := hid (show getF s (fun x r => getT s d ty x r) 2 ty fk rest = pickV fk.bytes.size rest (byteV fk.bytes) by simp [getF])
    go_wp2_with (go_at_call 116; refine (HpB).mono ?_; rintro r5 W5 ⟨rfl, rfl⟩)
    go_returns
    exact ⟨by rw [Hv.out]; rfl, hB4⟩

set_option maxRecDepth 100000 in
set_option maxHeartbeats 40000000 in
theorem get_k3 (s : Schema) (sa : Option Addr) (sn sc : Nat) (d : Nat) (ihd : GetIH s sa sn sc d) : ∀ (t : Int) (v : St (d + 1)) (cs : List Value) (p : Int) (rest : List Int) (b off m c : Nat) (w : World), Sch w (.slice sa sn sc) s → RdS (d + 1) w cs v →
    m = rest.length + 1 → Ints w (.slice (some ⟨b, off, none⟩) m c) (p :: rest) → (0 ≤ p ∧ p.toNat < (Node.kids v).length ∧ (fieldP s t p.toNat).1 = 3) →
    Calls Tryd.prog 98 #[.slice sa sn sc, .int .i64 t, .agg cs.toArray, .slice (some ⟨b, off, none⟩) m c] w (GetR w (getT s (d + 1) t v (p :: rest))) := by
  intro t v cs p rest b off m c w hs h hm hp hK
  have ih : Hid (∀ (t : Int) (v : St d) (cs : List Value) (p : Int) (rest : List Int) (b off m c : Nat) (w : World), Sch w (.slice sa sn sc) s → RdS d w cs v → m = rest.length + 1 → Ints w (.slice (some ⟨b, off, none⟩) m c) (p :: rest) → Calls Tryd.prog 98 #[.slice sa sn sc, .int .i64 t, .agg cs.toArray, .slice (some ⟨b, off, none⟩) m c] w (GetR w (getT s d t v (p :: rest)))) := hid ihd
  obtain ⟨a2, p2, a, cap, rfl, hbs, hn, hk, hnm, hkm⟩ := RdN.open h
  clear h hn
  obtain ⟨N, hN⟩ : ∃ N, N = (Node.kids v).length := ⟨_, rfl⟩
  rw [← hN] at hk hkm hK ⊢
  have HN := hid hN
  clear hN
  obtain ⟨o2, ho2, htail⟩ := Ints.behind hp hm
  obtain ⟨c9, hc9⟩ : ∃ x, c - 1 = x := ⟨_, rfl⟩
  rw [hc9] at htail
  obtain ⟨n, hnl⟩ : ∃ n, n = rest.length := ⟨_, rfl⟩
  rw [← hnl] at hm htail
  have Hn := hid hnl
  clear hnl
  subst hm
  obtain ⟨b', off', c', e, h2, h3, h4, h5⟩ := Row.cons hp (by simp)
  have h6 := hp.most
  simp only [Value.slice.injEq, Option.some.injEq, Addr.mk.injEq] at e
  obtain ⟨⟨rfl, rfl, _⟩, em, rfl⟩ := e
  clear em
  have c0 : w.cell? ⟨b, off, none⟩ = some (.int .i64 p) := h5 0 (by simp)
  clear h5 hp
  obtain ⟨w0, hw0, hb0, hlt0, hbox0⟩ := boxed w #[.slice sa sn sc] 27
  have s0 : w0.cell? ⟨w.heap.size, 0, none⟩ = some (.slice sa sn sc) := hbox0 0
  obtain ⟨w1, hw1, hb1, hlt1, hbox⟩ := boxed w0 #[U (Node.num v), .string (Node.bytes v), .slice a2 (Node.nums v).length p2, .slice a N cap] 49
  have x3 : w1.cell? ⟨w0.heap.size, 3, none⟩ = some (.slice a N cap) := hbox 3
  have c1 : w1.cell? ⟨b, off, none⟩ = some (.int .i64 p) := (hb1.cell (Nat.lt_of_lt_of_le h4 hb0.size)).trans ((hb0.cell h4).trans c0)
  have s1 : w1.cell? ⟨w.heap.size, 0, none⟩ = some (.slice sa sn sc) := (hb1.cell hlt0).trans s0
  have hb01 := via hb0 hb1
  have hs1 := hs.below hb01 (Nat.le_refl _)
  have hk1 := hk.below (kept_N (kept_S d)) hb01 (Nat.le_refl _)
  have ht1 := htail.below hb01 (Nat.le_refl _)
  clear hbox hbox0 hs hk htail c0 s0
  have hn1 : (1 : Int) ≤ (n : Int) + 1 := by omega
  have h41 : b < w1.heap.size := Nat.lt_of_lt_of_le (Nat.lt_of_lt_of_le h4 hb0.size) hb1.size
  by_cases hneg : p < 0
  · exact absurd hK.1 (by omega)
  · obtain ⟨i, rfl⟩ : ∃ i : Nat, p = i := ⟨p.toNat, by omega⟩
    have hKk := hK.2.2
    rw [Int.toNat_natCast] at hKk
    have hi : i < N := by have := hK.2.1; rw [Int.toNat_natCast] at this; exact this
    clear hK
    have hKi := hid hKk
    clear hKk
    obtain ⟨fk, hfk⟩ := get_lt (l := Node.kids v) (i := i) (by rw [← HN.out]; exact hi)
    obtain ⟨bf, of, a4, p4, a5, p5, rfl, hbb, q0, q1, q2, q3, hfb, hfn, hfkk, _, hfnn, hfm⟩ := Kids.at_ hk1 hfk
    obtain ⟨M, hM⟩ : ∃ M, M = fk.kids.length := ⟨_, rfl⟩
    obtain ⟨R, hR⟩ : ∃ R, R = fk.nums.length := ⟨_, rfl⟩
    rw [← hM] at hfkk hfm q3
    rw [← hR] at hfnn q2
    have hfn' : Row w1 1 (.slice a4 R p4) fk.nums.length (fk.nums.map U) := by rw [hR]; exact hfn
    have HM := hid hM
    have HR := hid hR
    have Hg := hid (show getT s (d + 1) t v ((i : Int) :: rest) = getF s (fun x r => getT s d (fieldP s t i).2 x r) (fieldP s t i).1 (fieldP s t i).2 fk rest by
      rw [getT, List.headD_cons, if_neg hneg, Int.toNat_natCast, hfk]; rfl)
    have hd : decide ((i : Int) < 0) = false := decide_eq_false hneg
    have hd2 : decide (N ≤ i) = false := decide_eq_false (by omega)
    clear hM hR hfk hfn hneg hk1
    rw [Hg.out]
    have Hkind := fun W (hW : Below w1.heap.size w1 W) => kind_any s (.slice sa sn sc) t i W (hs1.below hW (Nat.le_refl _))
    have Htype := fun W (hW : Below w1.heap.size w1 W) => type_any s (.slice sa sn sc) t i W (hs1.below hW (Nat.le_refl _))
    generalize (fieldP s t i).1 = kd at *
    generalize (fieldP s t i).2 = ty at *
    go_enter Tryd.func98, Tryd.ntmps98
    go_wp2_with fail
    go_quiet (fail)
    go_wp2_with fail
    have hzp : ∀ nq B j, B < w1.heap.size → ((w1.drewN nq).alloc (.cells #[.int .u64 0, .string { data := #[] }, .slice none 0 0, .slice none 0 0] 49)).cell? ⟨B, j, none⟩ = w1.cell? ⟨B, j, none⟩ := fun nq B j h => World.cell?_alloc_past _ _ _ h
    have z0 : ∀ nq, ((w1.drewN nq).alloc (.cells #[.int .u64 0, .string { data := #[] }, .slice none 0 0, .slice none 0 0] 49)).cell? ⟨w1.heap.size, 0, none⟩ = some (.int .u64 0) := fun nq => World.cell?_alloc_at _ _ _ _ rfl
    have z1 : ∀ nq, ((w1.drewN nq).alloc (.cells #[.int .u64 0, .string { data := #[] }, .slice none 0 0, .slice none 0 0] 49)).cell? ⟨w1.heap.size, 1, none⟩ = some (.string { data := #[] }) := fun nq => World.cell?_alloc_at _ _ _ _ rfl
    have z2 : ∀ nq, ((w1.drewN nq).alloc (.cells #[.int .u64 0, .string { data := #[] }, .slice none 0 0, .slice none 0 0] 49)).cell? ⟨w1.heap.size, 2, none⟩ = some (.slice none 0 0) := fun nq => World.cell?_alloc_at _ _ _ _ rfl
    have z3 : ∀ nq, ((w1.drewN nq).alloc (.cells #[.int .u64 0, .string { data := #[] }, .slice none 0 0, .slice none 0 0] 49)).cell? ⟨w1.heap.size, 3, none⟩ = some (.slice none 0 0) := fun nq => World.cell?_alloc_at _ _ _ _ rfl
    have zf : ∀ nq j, ((w1.drewN nq).alloc (.cells #[.int .u64 0, .string { data := #[] }, .slice none 0 0, .slice none 0 0] 49)).frozen? ⟨w1.heap.size, j, none⟩ = false := fun nq j => World.frozen?_alloc_at _ _ _ _ rfl
    have zc := fun nq => (hzp nq b off h41).trans c1
    have zq0 := fun nq => (hzp nq bf (of + i * 4) hbb).trans q0
    have zq1 := fun nq => (hzp nq bf (of + i * 4 + 1) hbb).trans q1
    have zq2 := fun nq => (hzp nq bf (of + i * 4 + 2) hbb).trans q2
    have zq3 := fun nq => (hzp nq bf (of + i * 4 + 3) hbb).trans q3
    have zx := fun nq => (hzp nq w0.heap.size 3 hlt1).trans x3
    have hneb : b ≠ w1.heap.size := by omega
    have zs : ∀ nq, ((((((w1.drewN nq).alloc (.cells #[.int .u64 0, .string { data := #[] }, .slice none 0 0, .slice none 0 0] 49)).setCell ⟨w1.heap.size, 0, none⟩ (U fk.num)).setCell ⟨w1.heap.size, 1, none⟩ (.string fk.bytes)).setCell ⟨w1.heap.size, 2, none⟩ (.slice a4 R p4)).setCell ⟨w1.heap.size, 3, none⟩ (.slice a5 M p5)).cell? ⟨b, off, none⟩ = some (.int .i64 i) := fun nq => by
      rw [World.cell?_setCell_other _ _ _ _ (by simp), World.cell?_setCell_other _ _ _ _ (by simp), World.cell?_setCell_other _ _ _ _ (by simp), World.cell?_setCell_other _ _ _ _ (by simp)]
      exact zc nq
    clear hzp
    go_region
    obtain ⟨W, hW, hbW, ltW, d0, d1, d2, d3⟩ := tree_copy w1 (nq + 1) (U fk.num) (.string fk.bytes) (.slice a4 R p4) (.slice a5 M p5)
    rw [hW]
    clear zc zq0 zq1 zq2 zq3 zx zs z0 z1 z2 z3 zf hW hw0 hw1 q0 q1 q2 q3 hneb x3 c1 hd hd2
    have sW : W.cell? ⟨w.heap.size, 0, none⟩ = some (.slice sa sn sc) := (hbW.cell (Nat.lt_of_lt_of_le hlt0 hb1.size)).trans s1
    have HT := Htype W hbW
    go_wp2_with (first
      | (go_at_call 64; refine HT.mono ?_; rintro r1 W2 ⟨rfl, hb2⟩; obtain ⟨W3, hW3, hb3, lt3, box3⟩ := boxed W2 #[.int .i64 ty] 3; have i3 : W3.cell? ⟨W2.heap.size, 0, none⟩ = some (.int .i64 ty) := box3 0; have hb23 : Below W.heap.size W W3 := hb2.trans (hb3.mono hb2.size); have s3 : W3.cell? ⟨w.heap.size, 0, none⟩ = some (.slice sa sn sc) := (hb23.cell (Nat.lt_of_lt_of_le (Nat.lt_of_lt_of_le hlt0 hb1.size) hbW.size)).trans sW; have HK := Hkind W3 (hbW.trans (hb23.mono hbW.size))))
    ((refine HK.mono ?_); rintro r1 W4 ⟨rfl, hb4⟩)
    have hb24 : Below W.heap.size W W4 := hb23.trans (hb4.mono hb23.size)
    have hb14 : Below w1.heap.size w1 W4 := hbW.trans (hb24.mono hbW.size)
    replace s3 := (hb4.cell (Nat.lt_of_lt_of_le (Nat.lt_of_lt_of_le (Nat.lt_of_lt_of_le hlt0 hb1.size) hbW.size) hb23.size)).trans s3
    replace i3 := (hb4.cell lt3).trans i3
    replace d0 := (hb24.cell ltW).trans d0
    replace d1 := (hb24.cell ltW).trans d1
    replace d2 := (hb24.cell ltW).trans d2
    replace d3 := (hb24.cell ltW).trans d3
    have hp4 := ht1.below hb14 (Nat.le_refl _)
    have hk4 := hfkk.below (kept_S d) hb14 (Nat.le_refl _)
    have hn4 := hfn'.below hb14 (Nat.le_refl _)
    have hs4 := hs1.below hb14 (Nat.le_refl _)
    have hB4 := hb01.trans (hb14.mono hb01.size)
    generalize w1.heap.size = D at d0 d1 d2 d3 ⊢
    generalize W2.heap.size = Q at *
    clear hW3 hb3 box3 hb23 HK HT hbW ltW sW s1 hs1 ht1 hb01 hb24 hb14 hb4 hb2 Hkind Htype hbb hfkk hfn'
    have HpB := pickB_any (.pointer (some ⟨D, 0, none⟩)) fk.bytes.size (byteV fk.bytes) rest (some ⟨b, o2, none⟩) n c9 W4 hfb Hn.out hp4 (fun j hj => getB_any D fk.bytes j hj W4 d1)
    have HpN := pickN_any (.pointer (some ⟨D, 0, none⟩)) R (fun j => fk.nums.getD j 0#64) rest (some ⟨b, o2, none⟩) n c9 W4 hfnn Hn.out hp4 (fun j hj => getN_any D fk.nums a4 R p4 HR.out j (by rw [← HR.out]; exact hj) W4 d2 hn4)
    have HpK := pickK_any (.pointer (some ⟨w.heap.size, 0, none⟩)) (.pointer (some ⟨Q, 0, none⟩)) M (fun _ => BitVec.ofNat 64 (typeL s ty).length) rest (some ⟨b, o2, none⟩) n c9 W4 hfm Hn.out hp4 (fun j hj => getK_any w.heap.size Q s (.slice sa sn sc) ty j W4 s3 i3 hs4)
    have HpKd := fun k => pickK_any (.pointer (some ⟨w.heap.size, 0, none⟩)) (.pointer (some ⟨Q, 0, none⟩)) M (fun _ => BitVec.ofNat 64 (typeL s ty).length) rest (some ⟨b, o2, none⟩) n c9 (W4.drewN k) hfm Hn.out hp4.drewN (fun j hj => getK_any w.heap.size Q s (.slice sa sn sc) ty j (W4.drewN k) s3 i3 hs4.drewN)
    have hKo := hKi.out
    clear hKi
    subst hKo
    have Hv := hid (show getF s (fun x r => getT s d ty x r) 3 ty fk rest = pickV R rest (fun j => fk.nums.getD j 0#64) by simp only [getF]; rw [HR.out]; simp)
    go_wp2_with (go_at_call 116; refine (HpN).mono ?_; rintro r5 W5 ⟨rfl, rfl⟩)
    go_returns
    exact ⟨by rw [Hv.out]; rfl, hB4⟩

set_option maxRecDepth 100000 in
set_option maxHeartbeats 40000000 in
theorem get_k6 (s : Schema) (sa : Option Addr) (sn sc : Nat) (d : Nat) (ihd : GetIH s sa sn sc d) : ∀ (t : Int) (v : St (d + 1)) (cs : List Value) (p : Int) (rest : List Int) (b off m c : Nat) (w : World), Sch w (.slice sa sn sc) s → RdS (d + 1) w cs v →
    m = rest.length + 1 → Ints w (.slice (some ⟨b, off, none⟩) m c) (p :: rest) → (0 ≤ p ∧ p.toNat < (Node.kids v).length ∧ ∀ k : Int, 1 ≤ k → k ≤ 5 → (fieldP s t p.toNat).1 ≠ k) →
    Calls Tryd.prog 98 #[.slice sa sn sc, .int .i64 t, .agg cs.toArray, .slice (some ⟨b, off, none⟩) m c] w (GetR w (getT s (d + 1) t v (p :: rest))) := by
  intro t v cs p rest b off m c w hs h hm hp hK
  have ih : Hid (∀ (t : Int) (v : St d) (cs : List Value) (p : Int) (rest : List Int) (b off m c : Nat) (w : World), Sch w (.slice sa sn sc) s → RdS d w cs v → m = rest.length + 1 → Ints w (.slice (some ⟨b, off, none⟩) m c) (p :: rest) → Calls Tryd.prog 98 #[.slice sa sn sc, .int .i64 t, .agg cs.toArray, .slice (some ⟨b, off, none⟩) m c] w (GetR w (getT s d t v (p :: rest)))) := hid ihd
  obtain ⟨a2, p2, a, cap, rfl, hbs, hn, hk, hnm, hkm⟩ := RdN.open h
  clear h hn
  obtain ⟨N, hN⟩ : ∃ N, N = (Node.kids v).length := ⟨_, rfl⟩
  rw [← hN] at hk hkm hK ⊢
  have HN := hid hN
  clear hN
  obtain ⟨o2, ho2, htail⟩ := Ints.behind hp hm
  obtain ⟨c9, hc9⟩ : ∃ x, c - 1 = x := ⟨_, rfl⟩
  rw [hc9] at htail
  obtain ⟨n, hnl⟩ : ∃ n, n = rest.length := ⟨_, rfl⟩
  rw [← hnl] at hm htail
  have Hn := hid hnl
  clear hnl
  subst hm
  obtain ⟨b', off', c', e, h2, h3, h4, h5⟩ := Row.cons hp (by simp)
  have h6 := hp.most
  simp only [Value.slice.injEq, Option.some.injEq, Addr.mk.injEq] at e
  obtain ⟨⟨rfl, rfl, _⟩, em, rfl⟩ := e
  clear em
  have c0 : w.cell? ⟨b, off, none⟩ = some (.int .i64 p) := h5 0 (by simp)
  clear h5 hp
  obtain ⟨w0, hw0, hb0, hlt0, hbox0⟩ := boxed w #[.slice sa sn sc] 27
  have s0 : w0.cell? ⟨w.heap.size, 0, none⟩ = some (.slice sa sn sc) := hbox0 0
  obtain ⟨w1, hw1, hb1, hlt1, hbox⟩ := boxed w0 #[U (Node.num v), .string (Node.bytes v), .slice a2 (Node.nums v).length p2, .slice a N cap] 49
  have x3 : w1.cell? ⟨w0.heap.size, 3, none⟩ = some (.slice a N cap) := hbox 3
  have c1 : w1.cell? ⟨b, off, none⟩ = some (.int .i64 p) := (hb1.cell (Nat.lt_of_lt_of_le h4 hb0.size)).trans ((hb0.cell h4).trans c0)
  have s1 : w1.cell? ⟨w.heap.size, 0, none⟩ = some (.slice sa sn sc) := (hb1.cell hlt0).trans s0
  have hb01 := via hb0 hb1
  have hs1 := hs.below hb01 (Nat.le_refl _)
  have hk1 := hk.below (kept_N (kept_S d)) hb01 (Nat.le_refl _)
  have ht1 := htail.below hb01 (Nat.le_refl _)
  clear hbox hbox0 hs hk htail c0 s0
  have hn1 : (1 : Int) ≤ (n : Int) + 1 := by omega
  have h41 : b < w1.heap.size := Nat.lt_of_lt_of_le (Nat.lt_of_lt_of_le h4 hb0.size) hb1.size
  by_cases hneg : p < 0
  · exact absurd hK.1 (by omega)
  · obtain ⟨i, rfl⟩ : ∃ i : Nat, p = i := ⟨p.toNat, by omega⟩
    have hKk := hK.2.2
    rw [Int.toNat_natCast] at hKk
    have hi : i < N := by have := hK.2.1; rw [Int.toNat_natCast] at this; exact this
    clear hK
    have hKi := hid hKk
    clear hKk
    obtain ⟨fk, hfk⟩ := get_lt (l := Node.kids v) (i := i) (by rw [← HN.out]; exact hi)
    obtain ⟨bf, of, a4, p4, a5, p5, rfl, hbb, q0, q1, q2, q3, hfb, hfn, hfkk, _, hfnn, hfm⟩ := Kids.at_ hk1 hfk
    obtain ⟨M, hM⟩ : ∃ M, M = fk.kids.length := ⟨_, rfl⟩
    obtain ⟨R, hR⟩ : ∃ R, R = fk.nums.length := ⟨_, rfl⟩
    rw [← hM] at hfkk hfm q3
    rw [← hR] at hfnn q2
    have hfn' : Row w1 1 (.slice a4 R p4) fk.nums.length (fk.nums.map U) := by rw [hR]; exact hfn
    have HM := hid hM
    have HR := hid hR
    have Hg := hid (show getT s (d + 1) t v ((i : Int) :: rest) = getF s (fun x r => getT s d (fieldP s t i).2 x r) (fieldP s t i).1 (fieldP s t i).2 fk rest by
      rw [getT, List.headD_cons, if_neg hneg, Int.toNat_natCast, hfk]; rfl)
    have hd : decide ((i : Int) < 0) = false := decide_eq_false hneg
    have hd2 : decide (N ≤ i) = false := decide_eq_false (by omega)
    clear hM hR hfk hfn hneg hk1
    rw [Hg.out]
    have Hkind := fun W (hW : Below w1.heap.size w1 W) => kind_any s (.slice sa sn sc) t i W (hs1.below hW (Nat.le_refl _))
    have Htype := fun W (hW : Below w1.heap.size w1 W) => type_any s (.slice sa sn sc) t i W (hs1.below hW (Nat.le_refl _))
    generalize (fieldP s t i).1 = kd at *
    generalize (fieldP s t i).2 = ty at *
    go_enter Tryd.func98, Tryd.ntmps98
    go_wp2_with fail
    go_quiet (fail)
    go_wp2_with fail
    have hzp : ∀ nq B j, B < w1.heap.size → ((w1.drewN nq).alloc (.cells #[.int .u64 0, .string { data := #[] }, .slice none 0 0, .slice none 0 0] 49)).cell? ⟨B, j, none⟩ = w1.cell? ⟨B, j, none⟩ := fun nq B j h => World.cell?_alloc_past _ _ _ h
    have z0 : ∀ nq, ((w1.drewN nq).alloc (.cells #[.int .u64 0, .string { data := #[] }, .slice none 0 0, .slice none 0 0] 49)).cell? ⟨w1.heap.size, 0, none⟩ = some (.int .u64 0) := fun nq => World.cell?_alloc_at _ _ _ _ rfl
    have z1 : ∀ nq, ((w1.drewN nq).alloc (.cells #[.int .u64 0, .string { data := #[] }, .slice none 0 0, .slice none 0 0] 49)).cell? ⟨w1.heap.size, 1, none⟩ = some (.string { data := #[] }) := fun nq => World.cell?_alloc_at _ _ _ _ rfl
    have z2 : ∀ nq, ((w1.drewN nq).alloc (.cells #[.int .u64 0, .string { data := #[] }, .slice none 0 0, .slice none 0 0] 49)).cell? ⟨w1.heap.size, 2, none⟩ = some (.slice none 0 0) := fun nq => World.cell?_alloc_at _ _ _ _ rfl
    have z3 : ∀ nq, ((w1.drewN nq).alloc (.cells #[.int .u64 0, .string { data := #[] }, .slice none 0 0, .slice none 0 0] 49)).cell? ⟨w1.heap.size, 3, none⟩ = some (.slice none 0 0) := fun nq => World.cell?_alloc_at _ _ _ _ rfl
    have zf : ∀ nq j, ((w1.drewN nq).alloc (.cells #[.int .u64 0, .string { data := #[] }, .slice none 0 0, .slice none 0 0] 49)).frozen? ⟨w1.heap.size, j, none⟩ = false := fun nq j => World.frozen?_alloc_at _ _ _ _ rfl
    have zc := fun nq => (hzp nq b off h41).trans c1
    have zq0 := fun nq => (hzp nq bf (of + i * 4) hbb).trans q0
    have zq1 := fun nq => (hzp nq bf (of + i * 4 + 1) hbb).trans q1
    have zq2 := fun nq => (hzp nq bf (of + i * 4 + 2) hbb).trans q2
    have zq3 := fun nq => (hzp nq bf (of + i * 4 + 3) hbb).trans q3
    have zx := fun nq => (hzp nq w0.heap.size 3 hlt1).trans x3
    have hneb : b ≠ w1.heap.size := by omega
    have zs : ∀ nq, ((((((w1.drewN nq).alloc (.cells #[.int .u64 0, .string { data := #[] }, .slice none 0 0, .slice none 0 0] 49)).setCell ⟨w1.heap.size, 0, none⟩ (U fk.num)).setCell ⟨w1.heap.size, 1, none⟩ (.string fk.bytes)).setCell ⟨w1.heap.size, 2, none⟩ (.slice a4 R p4)).setCell ⟨w1.heap.size, 3, none⟩ (.slice a5 M p5)).cell? ⟨b, off, none⟩ = some (.int .i64 i) := fun nq => by
      rw [World.cell?_setCell_other _ _ _ _ (by simp), World.cell?_setCell_other _ _ _ _ (by simp), World.cell?_setCell_other _ _ _ _ (by simp), World.cell?_setCell_other _ _ _ _ (by simp)]
      exact zc nq
    clear hzp
    go_region
    obtain ⟨W, hW, hbW, ltW, d0, d1, d2, d3⟩ := tree_copy w1 (nq + 1) (U fk.num) (.string fk.bytes) (.slice a4 R p4) (.slice a5 M p5)
    rw [hW]
    clear zc zq0 zq1 zq2 zq3 zx zs z0 z1 z2 z3 zf hW hw0 hw1 q0 q1 q2 q3 hneb x3 c1 hd hd2
    have sW : W.cell? ⟨w.heap.size, 0, none⟩ = some (.slice sa sn sc) := (hbW.cell (Nat.lt_of_lt_of_le hlt0 hb1.size)).trans s1
    have HT := Htype W hbW
    go_wp2_with (first
      | (go_at_call 64; refine HT.mono ?_; rintro r1 W2 ⟨rfl, hb2⟩; obtain ⟨W3, hW3, hb3, lt3, box3⟩ := boxed W2 #[.int .i64 ty] 3; have i3 : W3.cell? ⟨W2.heap.size, 0, none⟩ = some (.int .i64 ty) := box3 0; have hb23 : Below W.heap.size W W3 := hb2.trans (hb3.mono hb2.size); have s3 : W3.cell? ⟨w.heap.size, 0, none⟩ = some (.slice sa sn sc) := (hb23.cell (Nat.lt_of_lt_of_le (Nat.lt_of_lt_of_le hlt0 hb1.size) hbW.size)).trans sW; have HK := Hkind W3 (hbW.trans (hb23.mono hbW.size))))
    ((refine HK.mono ?_); rintro r1 W4 ⟨rfl, hb4⟩)
    have hb24 : Below W.heap.size W W4 := hb23.trans (hb4.mono hb23.size)
    have hb14 : Below w1.heap.size w1 W4 := hbW.trans (hb24.mono hbW.size)
    replace s3 := (hb4.cell (Nat.lt_of_lt_of_le (Nat.lt_of_lt_of_le (Nat.lt_of_lt_of_le hlt0 hb1.size) hbW.size) hb23.size)).trans s3
    replace i3 := (hb4.cell lt3).trans i3
    replace d0 := (hb24.cell ltW).trans d0
    replace d1 := (hb24.cell ltW).trans d1
    replace d2 := (hb24.cell ltW).trans d2
    replace d3 := (hb24.cell ltW).trans d3
    have hp4 := ht1.below hb14 (Nat.le_refl _)
    have hk4 := hfkk.below (kept_S d) hb14 (Nat.le_refl _)
    have hn4 := hfn'.below hb14 (Nat.le_refl _)
    have hs4 := hs1.below hb14 (Nat.le_refl _)
    have hB4 := hb01.trans (hb14.mono hb01.size)
    generalize w1.heap.size = D at d0 d1 d2 d3 ⊢
    generalize W2.heap.size = Q at *
    clear hW3 hb3 box3 hb23 HK HT hbW ltW sW s1 hs1 ht1 hb01 hb24 hb14 hb4 hb2 Hkind Htype hbb hfkk hfn'
    have HpB := pickB_any (.pointer (some ⟨D, 0, none⟩)) fk.bytes.size (byteV fk.bytes) rest (some ⟨b, o2, none⟩) n c9 W4 hfb Hn.out hp4 (fun j hj => getB_any D fk.bytes j hj W4 d1)
    have HpN := pickN_any (.pointer (some ⟨D, 0, none⟩)) R (fun j => fk.nums.getD j 0#64) rest (some ⟨b, o2, none⟩) n c9 W4 hfnn Hn.out hp4 (fun j hj => getN_any D fk.nums a4 R p4 HR.out j (by rw [← HR.out]; exact hj) W4 d2 hn4)
    have HpK := pickK_any (.pointer (some ⟨w.heap.size, 0, none⟩)) (.pointer (some ⟨Q, 0, none⟩)) M (fun _ => BitVec.ofNat 64 (typeL s ty).length) rest (some ⟨b, o2, none⟩) n c9 W4 hfm Hn.out hp4 (fun j hj => getK_any w.heap.size Q s (.slice sa sn sc) ty j W4 s3 i3 hs4)
    have HpKd := fun k => pickK_any (.pointer (some ⟨w.heap.size, 0, none⟩)) (.pointer (some ⟨Q, 0, none⟩)) M (fun _ => BitVec.ofNat 64 (typeL s ty).length) rest (some ⟨b, o2, none⟩) n c9 (W4.drewN k) hfm Hn.out hp4.drewN (fun j hj => getK_any w.heap.size Q s (.slice sa sn sc) ty j (W4.drewN k) s3 i3 hs4.drewN)
    have hKi := hKi.out
    have k1 := hKi 1 (by decide) (by decide)
    have k2 := hKi 2 (by decide) (by decide)
    have k3 := hKi 3 (by decide) (by decide)
    have k4 := hKi 4 (by decide) (by decide)
    have k5 := hKi 5 (by decide) (by decide)
    clear hKi
    have hb1 : (kd == 1) = false := by rw [beq_eq_false_iff_ne]; exact k1
    have hb2 : (kd == 2) = false := by rw [beq_eq_false_iff_ne]; exact k2
    have hb3 : (kd == 3) = false := by rw [beq_eq_false_iff_ne]; exact k3
    have hb4 : (kd == 4) = false := by rw [beq_eq_false_iff_ne]; exact k4
    have hb5 : (kd == 5) = false := by rw [beq_eq_false_iff_ne]; exact k5
    by_cases hr : rest = []
    · have hr' := hr
      obtain rfl : n = 0 := by rw [Hn.out, hr]; rfl
      have Hv := hid (show getF s (fun x r => getT s d ty x r) kd ty fk rest = pickV M rest (fun _ => BitVec.ofNat 64 (typeL s ty).length) by rw [show getF s (fun x r => getT s d ty x r) kd ty fk rest = endV s ty fk.kids.length rest by simp only [getF]; rw [if_neg k1, if_neg k2, if_neg k3, if_neg k4, if_neg k5], endV, if_neg (by simp [hr]), HM.out])
      clear hr hr'
      go_wp2_with (go_at_call 116; refine (HpK).mono ?_; rintro r5 W5 ⟨rfl, rfl⟩)
      go_returns
      exact ⟨by rw [Hv.out]; rfl, hB4⟩
    · have hr' := hr
      have hn0 : 0 < n := by rw [Hn.out]; exact List.length_pos_iff.2 hr
      have hnd : decide ((0 : Int) < (n : Int)) = true := decide_eq_true (by omega)
      by_cases hM : M = 0
      · have hM0 : fk.kids.length = 0 := by rw [← HM.out]; exact hM
        have Hv := hid (show getF s (fun x r => getT s d ty x r) kd ty fk rest = (0#64, 12) by rw [show getF s (fun x r => getT s d ty x r) kd ty fk rest = endV s ty fk.kids.length rest by simp only [getF]; rw [if_neg k1, if_neg k2, if_neg k3, if_neg k4, if_neg k5], endV, if_pos ⟨hr, hM0⟩])
        subst hM
        clear hr
        (try clear hr2)
        (try clear hre)
        go_wp2_with fail
        go_returns
        exact ⟨by rw [Hv.out]; rfl, hB4⟩
      · have hM0 : ¬ fk.kids.length = 0 := by rw [← HM.out]; exact hM
        have Hv := hid (show getF s (fun x r => getT s d ty x r) kd ty fk rest = pickV M rest (fun _ => BitVec.ofNat 64 (typeL s ty).length) by rw [show getF s (fun x r => getT s d ty x r) kd ty fk rest = endV s ty fk.kids.length rest by simp only [getF]; rw [if_neg k1, if_neg k2, if_neg k3, if_neg k4, if_neg k5], endV, if_neg (fun h => hM0 h.2), HM.out])
        have hMd : ((M : Int) == 0) = false := by rw [beq_eq_false_iff_ne]; omega
        clear hr
        (try clear hr2)
        (try clear hre)
        go_wp2_with (go_at_call 116; refine (HpK).mono ?_; rintro r5 W5 ⟨rfl, rfl⟩)
        go_returns
        exact ⟨by rw [Hv.out]; rfl, hB4⟩
end STrGKA

end Go.Proofs.YtogaclolodlnbaaDoor


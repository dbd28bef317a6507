/- tree.get of a path whose field is of kind 4. -/
import Derived.Test.YtblbhlgihlgncaaDoorGt
set_option linter.unusedVariables false
set_option linter.unusedSimpArgs false
namespace Go.Proofs.YtblbhlgihlgncaaDoor
section STrGK4
open Go.RowKit

set_option maxRecDepth 100000 in
set_option maxHeartbeats 40000000 in
theorem get_k4 (s : Schema) (sa : Option Addr) (sn sc : Nat) (d : Nat) (ihd : GetIH s sa sn sc d) : ∀ (t : Int) (v : St (d + 1)) (cs : List Value) (p : Int) (rest : List Int) (b off m c : Nat) (w : World), Sch w (.slice sa sn sc) s → RdS (d + 1) w cs v →
    m = rest.length + 1 → Ints w (.slice (some ⟨b, off, none⟩) m c) (p :: rest) → (0 ≤ p ∧ p.toNat < (Node.kids v).length ∧ (fieldP s t p.toNat).1 = 4) →
    Calls Tryd.prog 79 #[.slice sa sn sc, .int .i64 t, .agg cs.toArray, .slice (some ⟨b, off, none⟩) m c] w (GetR w (getT s (d + 1) t v (p :: rest))) := by
  intro t v cs p rest b off m c w hs h hm hp hK
  have ih : Hid (∀ (t : Int) (v : St d) (cs : List Value) (p : Int) (rest : List Int) (b off m c : Nat) (w : World), Sch w (.slice sa sn sc) s → RdS d w cs v → m = rest.length + 1 → Ints w (.slice (some ⟨b, off, none⟩) m c) (p :: rest) → Calls Tryd.prog 79 #[.slice sa sn sc, .int .i64 t, .agg cs.toArray, .slice (some ⟨b, off, none⟩) m c] w (GetR w (getT s d t v (p :: rest)))) := hid ihd
  obtain ⟨a2, p2, a, cap, rfl, hbs, hn, hk, hnm, hkm⟩ := RdN.open h
  clear h hn
  obtain ⟨N, hN⟩ : ∃ N, N = (Node.kids v).length := ⟨_, rfl⟩
  rw [← hN] at hk hkm hK ⊢
  have HN := hid hN
  clear hN
  obtain ⟨o2, ho2, htail⟩ := Ints.behind hp hm
  obtain ⟨c9, hc9⟩ : ∃ x, c - 1 = x := ⟨_, rfl⟩
  rw [hc9] at htail
  obtain ⟨n, hnl⟩ : ∃ n, n = rest.length := ⟨_, rfl⟩
  rw [← hnl] at hm htail
  have Hn := hid hnl
  clear hnl
  subst hm
  obtain ⟨b', off', c', e, h2, h3, h4, h5⟩ := Row.cons hp (by simp)
  have h6 := hp.most
  simp only [Value.slice.injEq, Option.some.injEq, Addr.mk.injEq] at e
  obtain ⟨⟨rfl, rfl, _⟩, em, rfl⟩ := e
  clear em
  have c0 : w.cell? ⟨b, off, none⟩ = some (.int .i64 p) := h5 0 (by simp)
  clear h5 hp
  obtain ⟨w0, hw0, hb0, hlt0, hbox0⟩ := boxed w #[.slice sa sn sc] 27
  have s0 : w0.cell? ⟨w.heap.size, 0, none⟩ = some (.slice sa sn sc) := hbox0 0
  obtain ⟨w1, hw1, hb1, hlt1, hbox⟩ := boxed w0 #[U (Node.num v), .string (Node.bytes v), .slice a2 (Node.nums v).length p2, .slice a N cap] 32
  have x3 : w1.cell? ⟨w0.heap.size, 3, none⟩ = some (.slice a N cap) := hbox 3
  have c1 : w1.cell? ⟨b, off, none⟩ = some (.int .i64 p) := (hb1.cell (Nat.lt_of_lt_of_le h4 hb0.size)).trans ((hb0.cell h4).trans c0)
  have s1 : w1.cell? ⟨w.heap.size, 0, none⟩ = some (.slice sa sn sc) := (hb1.cell hlt0).trans s0
  have hb01 := via hb0 hb1
  have hs1 := hs.below hb01 (Nat.le_refl _)
  have hk1 := hk.below (kept_N (kept_S d)) hb01 (Nat.le_refl _)
  have ht1 := htail.below hb01 (Nat.le_refl _)
  clear hbox hbox0 hs hk htail c0 s0
  have hn1 : (1 : Int) ≤ (n : Int) + 1 := by omega
  have h41 : b < w1.heap.size := Nat.lt_of_lt_of_le (Nat.lt_of_lt_of_le h4 hb0.size) hb1.size
  by_cases hneg : p < 0
  · exact absurd hK.1 (by omega)
  · obtain ⟨i, rfl⟩ : ∃ i : Nat, p = i := ⟨p.toNat, by omega⟩
    have hKk := hK.2.2
    rw [Int.toNat_natCast] at hKk
    have hi : i < N := by have := hK.2.1; rw [Int.toNat_natCast] at this; exact this
    clear hK
    have hKi := hid hKk
    clear hKk
    obtain ⟨fk, hfk⟩ := get_lt (l := Node.kids v) (i := i) (by rw [← HN.out]; exact hi)
    obtain ⟨bf, of, a4, p4, a5, p5, rfl, hbb, q0, q1, q2, q3, hfb, hfn, hfkk, _, hfnn, hfm⟩ := Kids.at_ hk1 hfk
    obtain ⟨M, hM⟩ : ∃ M, M = fk.kids.length := ⟨_, rfl⟩
    obtain ⟨R, hR⟩ : ∃ R, R = fk.nums.length := ⟨_, rfl⟩
    rw [← hM] at hfkk hfm q3
    rw [← hR] at hfnn q2
    have hfn' : Row w1 1 (.slice a4 R p4) fk.nums.length (fk.nums.map U) := by rw [hR]; exact hfn
    have HM := hid hM
    have HR := hid hR
    have Hg := hid (show getT s (d + 1) t v ((i : Int) :: rest) = getF s (fun x r => getT s d (fieldP s t i).2 x r) (fieldP s t i).1 (fieldP s t i).2 fk rest by
      rw [getT, List.headD_cons, if_neg hneg, Int.toNat_natCast, hfk]; rfl)
    have hd : decide ((i : Int) < 0) = false := decide_eq_false hneg
    have hd2 : decide (N ≤ i) = false := decide_eq_false (by omega)
    clear hM hR hfk hfn hneg hk1
    rw [Hg.out]
    have Hkind := fun W (hW : Below w1.heap.size w1 W) => kind_any s (.slice sa sn sc) t i W (hs1.below hW (Nat.le_refl _))
    have Htype := fun W (hW : Below w1.heap.size w1 W) => type_any s (.slice sa sn sc) t i W (hs1.below hW (Nat.le_refl _))
    generalize (fieldP s t i).1 = kd at *
    generalize (fieldP s t i).2 = ty at *
    go_enter Tryd.func79, Tryd.ntmps79
    go_wp2_with fail
    go_quiet (fail)
    go_wp2_with fail
    have hzp : ∀ nq B j, B < w1.heap.size → ((w1.drewN nq).alloc (.cells #[.int .u64 0, .string { data := #[] }, .slice none 0 0, .slice none 0 0] 32)).cell? ⟨B, j, none⟩ = w1.cell? ⟨B, j, none⟩ := fun nq B j h => World.cell?_alloc_past _ _ _ h
    have z0 : ∀ nq, ((w1.drewN nq).alloc (.cells #[.int .u64 0, .string { data := #[] }, .slice none 0 0, .slice none 0 0] 32)).cell? ⟨w1.heap.size, 0, none⟩ = some (.int .u64 0) := fun nq => World.cell?_alloc_at _ _ _ _ rfl
    have z1 : ∀ nq, ((w1.drewN nq).alloc (.cells #[.int .u64 0, .string { data := #[] }, .slice none 0 0, .slice none 0 0] 32)).cell? ⟨w1.heap.size, 1, none⟩ = some (.string { data := #[] }) := fun nq => World.cell?_alloc_at _ _ _ _ rfl
    have z2 : ∀ nq, ((w1.drewN nq).alloc (.cells #[.int .u64 0, .string { data := #[] }, .slice none 0 0, .slice none 0 0] 32)).cell? ⟨w1.heap.size, 2, none⟩ = some (.slice none 0 0) := fun nq => World.cell?_alloc_at _ _ _ _ rfl
    have z3 : ∀ nq, ((w1.drewN nq).alloc (.cells #[.int .u64 0, .string { data := #[] }, .slice none 0 0, .slice none 0 0] 32)).cell? ⟨w1.heap.size, 3, none⟩ = some (.slice none 0 0) := fun nq => World.cell?_alloc_at _ _ _ _ rfl
    have zf : ∀ nq j, ((w1.drewN nq).alloc (.cells #[.int .u64 0, .string { data := #[] }, .slice none 0 0, .slice none 0 0] 32)).frozen? ⟨w1.heap.size, j, none⟩ = false := fun nq j => World.frozen?_alloc_at _ _ _ _ rfl
    have zc := fun nq => (hzp nq b off h41).trans c1
    have zq0 := fun nq => (hzp nq bf (of + i * 4) hbb).trans q0
    have zq1 := fun nq => (hzp nq bf (of + i * 4 + 1) hbb).trans q1
    have zq2 := fun nq => (hzp nq bf (of + i * 4 + 2) hbb).trans q2
    have zq3 := fun nq => (hzp nq bf (of + i * 4 + 3) hbb).trans q3
    have zx := fun nq => (hzp nq w0.heap.size 3 hlt1).trans x3
    have hneb : b ≠ w1.heap.size := by omega
    have zs : ∀ nq, ((((((w1.drewN nq).alloc (.cells #[.int .u64 0, .string { data := #[] }, .slice none 0 0, .slice none 0 0] 32)).setCell ⟨w1.heap.size, 0, none⟩ (U fk.num)).setCell ⟨w1.heap.size, 1, none⟩ (.string fk.bytes)).setCell ⟨w1.heap.size, 2, none⟩ (.slice a4 R p4)).setCell ⟨w1.heap.size, 3, none⟩ (.slice a5 M p5)).cell? ⟨b, off, none⟩ = some (.int .i64 i) := fun nq => by
      rw [World.cell?_setCell_other _ _ _ _ (by simp), World.cell?_setCell_other _ _ _ _ (by simp), World.cell?_setCell_other _ _ _ _ (by simp), World.cell?_setCell_other _ _ _ _ (by simp)]
      exact zc nq
    clear hzp
    go_region
    obtain ⟨W, hW, hbW, ltW, d0, d1, d2, d3⟩ := tree_copy w1 (nq + 1) (U fk.num) (.string fk.bytes) (.slice a4 R p4) (.slice a5 M p5)
    rw [hW]
    clear zc zq0 zq1 zq2 zq3 zx zs z0 z1 z2 z3 zf hW hw0 hw1 q0 q1 q2 q3 hneb x3 c1 hd hd2
    have sW : W.cell? ⟨w.heap.size, 0, none⟩ = some (.slice sa sn sc) := (hbW.cell (Nat.lt_of_lt_of_le hlt0 hb1.size)).trans s1
    have HT := Htype W hbW
    go_wp2_with (first
      | (go_at_call 35; refine HT.mono ?_; rintro r1 W2 ⟨rfl, hb2⟩; obtain ⟨W3, hW3, hb3, lt3, box3⟩ := boxed W2 #[.int .i64 ty] 3; have i3 : W3.cell? ⟨W2.heap.size, 0, none⟩ = some (.int .i64 ty) := box3 0; have hb23 : Below W.heap.size W W3 := hb2.trans (hb3.mono hb2.size); have s3 : W3.cell? ⟨w.heap.size, 0, none⟩ = some (.slice sa sn sc) := (hb23.cell (Nat.lt_of_lt_of_le (Nat.lt_of_lt_of_le hlt0 hb1.size) hbW.size)).trans sW; have HK := Hkind W3 (hbW.trans (hb23.mono hbW.size))))
    ((refine HK.mono ?_); rintro r1 W4 ⟨rfl, hb4⟩)
    have hb24 : Below W.heap.size W W4 := hb23.trans (hb4.mono hb23.size)
    have hb14 : Below w1.heap.size w1 W4 := hbW.trans (hb24.mono hbW.size)
    replace s3 := (hb4.cell (Nat.lt_of_lt_of_le (Nat.lt_of_lt_of_le (Nat.lt_of_lt_of_le hlt0 hb1.size) hbW.size) hb23.size)).trans s3
    replace i3 := (hb4.cell lt3).trans i3
    replace d0 := (hb24.cell ltW).trans d0
    replace d1 := (hb24.cell ltW).trans d1
    replace d2 := (hb24.cell ltW).trans d2
    replace d3 := (hb24.cell ltW).trans d3
    have hp4 := ht1.below hb14 (Nat.le_refl _)
    have hk4 := hfkk.below (kept_S d) hb14 (Nat.le_refl _)
    have hn4 := hfn'.below hb14 (Nat.le_refl _)
    have hs4 := hs1.below hb14 (Nat.le_refl _)
    have hB4 := hb01.trans (hb14.mono hb01.size)
    generalize w1.heap.size = D at d0 d1 d2 d3 ⊢
    generalize W2.heap.size = Q at *
    clear hW3 hb3 box3 hb23 HK HT hbW ltW sW s1 hs1 ht1 hb01 hb24 hb14 hb4 hb2 Hkind Htype hbb hfkk hfn'
    have HpB := pickB_any (.pointer (some ⟨D, 0, none⟩)) fk.bytes.size (byteV fk.bytes) rest (some ⟨b, o2, none⟩) n c9 W4 hfb Hn.out hp4 (fun j hj => getB_any D fk.bytes j hj W4 d1)
    have HpN := pickN_any (.pointer (some ⟨D, 0, none⟩)) R (fun j => fk.nums.getD j 0#64) rest (some ⟨b, o2, none⟩) n c9 W4 hfnn Hn.out hp4 (fun j hj => getN_any D fk.nums a4 R p4 HR.out j (by rw [← HR.out]; exact hj) W4 d2 hn4)
    have HpK := pickK_any (.pointer (some ⟨w.heap.size, 0, none⟩)) (.pointer (some ⟨Q, 0, none⟩)) M (fun _ => BitVec.ofNat 64 (typeL s ty).length) rest (some ⟨b, o2, none⟩) n c9 W4 hfm Hn.out hp4 (fun j hj => getK_any w.heap.size Q s (.slice sa sn sc) ty j W4 s3 i3 hs4)
    have HpKd := fun k => pickK_any (.pointer (some ⟨w.heap.size, 0, none⟩)) (.pointer (some ⟨Q, 0, none⟩)) M (fun _ => BitVec.ofNat 64 (typeL s ty).length) rest (some ⟨b, o2, none⟩) n c9 (W4.drewN k) hfm Hn.out hp4.drewN (fun j hj => getK_any w.heap.size Q s (.slice sa sn sc) ty j (W4.drewN k) s3 i3 hs4.drewN)
    have hKo := hKi.out
    clear hKi
    subst hKo
    by_cases hr : rest = []
    · have hr' := hr
      obtain rfl : n = 0 := by rw [Hn.out, hr]; rfl
      have Hv := hid (show getF s (fun x r => getT s d ty x r) 4 ty fk rest = pickV M rest (fun _ => BitVec.ofNat 64 (typeL s ty).length) by simp only [getF]; rw [hr]; simp [endV, HM.out])
      clear hr hr'
      go_wp2_with (go_at_call 84; refine (HpK).mono ?_; rintro r5 W5 ⟨rfl, rfl⟩)
      go_returns
      exact ⟨by rw [Hv.out]; rfl, hB4⟩
    · have hr' := hr
      have hn0 : 0 < n := by rw [Hn.out]; exact List.length_pos_iff.2 hr
      have hnd : decide ((0 : Int) < (n : Int)) = true := decide_eq_true (by omega)
      by_cases hM : M = 0
      · have hM0 : fk.kids.length = 0 := by rw [← HM.out]; exact hM
        have hk0 : fk.kids[0]? = none := List.getElem?_eq_none (by omega)
        have Hv := hid (show getF s (fun x r => getT s d ty x r) 4 ty fk rest = (0#64, 12) by simp [getF, hr, hM0, endV])
        subst hM
        clear hr
        go_wp2_with fail
        go_returns
        exact ⟨by rw [Hv.out]; rfl, hB4⟩
      · obtain ⟨x, hx⟩ := get_lt (l := fk.kids) (i := 0) (by rw [← HM.out]; omega)
        obtain ⟨b2, off2, xn, xb, e2, m2, t2, e3, m3, t3, rfl, hbb2, q0, q1, q2, q3, hrx⟩ := Kids.atS hk4 hx
        obtain ⟨p', r, hre⟩ := List.exists_cons_of_ne_nil hr
        simp only [Nat.zero_mul, Nat.add_zero] at q0 q1 q2 q3
        have c2 : W4.cell? ⟨b, o2, none⟩ = some (.int .i64 p') := by obtain ⟨b3, o3', c3', e, hnc, _, _, hcell⟩ := Row.cons hp4 (by rw [hre]; simp); simp only [Value.slice.injEq, Option.some.injEq, Addr.mk.injEq] at e; obtain ⟨⟨rfl, rfl, _⟩, _, rfl⟩ := e; have := hcell 0 (by rw [hre]; simp); rw [hre] at this; exact this
        have hcall := fun W (hW : Below W4.heap.size W4 W) => ih.out ty x _ p' r b o2 n c9 W (hs4.below hW (Nat.le_refl _)) (hrx.below hW (Nat.le_refl _)) (by rw [Hn.out, hre]; rfl) (by have h := Row.below hp4 hW (Nat.le_refl _); rw [hre] at h; exact h)
        have Hv := hid (show getF s (fun x r => getT s d ty x r) 4 ty fk rest = getT s d ty x (p' :: r) by rw [hre] at hr ⊢; simp [getF, hx])
        have hM1 : 0 < M := by omega
        have hMd : decide ((0 : Int) < (M : Int)) = true := decide_eq_true (by omega)
        clear hx hre hr hr' hrx hk4 hM
        go_wp2_with fail
        go_region_held3 (fun W => W.cell? ⟨w.heap.size, 0, none⟩ = some (.slice sa sn sc) ∧ W.cell? ⟨Q, 0, none⟩ = some (.int .i64 ty) ∧ W.cell? ⟨D, 3, none⟩ = some (.slice (some ⟨b2, off2, none⟩) M p5) ∧ W.cell? ⟨b2, off2, none⟩ = some (U xn) ∧ W.cell? ⟨b2, off2 + 1, none⟩ = some (.string xb) ∧ W.cell? ⟨b2, off2 + 2, none⟩ = some (.slice e2 m2 t2) ∧ W.cell? ⟨b2, off2 + 3, none⟩ = some (.slice e3 m3 t3) ∧ W.cell? ⟨b, o2, none⟩ = some (.int .i64 p') ∧ Below W4.heap.size W4 W)
          (first | exact ⟨s3, i3, d3, q0, q1, q2, q3, c2, below_drewN _ W4 1⟩ | exact kept8 (by assumption) hb5)
          (first | (go_at_call 79; refine (hcall _ (kept8_end (by assumption))).mono ?_; rintro r5 W5 ⟨rfl, hb5⟩))
        have hB5 := kept8_end (W0 := W4) (W := W5) (by assumption)
        go_wp2_with fail
        go_returns
        exact ⟨by rw [Hv.out]; rfl, hB4.trans (hB5.mono hB4.size)⟩
end STrGK4

section STrGK5
open Go.RowKit

set_option maxRecDepth 100000 in
set_option maxHeartbeats 40000000 in
theorem get_k5 (s : Schema) (sa : Option Addr) (sn sc : Nat) (d : Nat) (ihd : GetIH s sa sn sc d) : ∀ (t : Int) (v : St (d + 1)) (cs : List Value) (p : Int) (rest : List Int) (b off m c : Nat) (w : World), Sch w (.slice sa sn sc) s → RdS (d + 1) w cs v →
    m = rest.length + 1 → Ints w (.slice (some ⟨b, off, none⟩) m c) (p :: rest) → (0 ≤ p ∧ p.toNat < (Node.kids v).length ∧ (fieldP s t p.toNat).1 = 5) →
    Calls Tryd.prog 79 #[.slice sa sn sc, .int .i64 t, .agg cs.toArray, .slice (some ⟨b, off, none⟩) m c] w (GetR w (getT s (d + 1) t v (p :: rest))) := by
  intro t v cs p rest b off m c w hs h hm hp hK
  have ih : Hid (∀ (t : Int) (v : St d) (cs : List Value) (p : Int) (rest : List Int) (b off m c : Nat) (w : World), Sch w (.slice sa sn sc) s → RdS d w cs v → m = rest.length + 1 → Ints w (.slice (some ⟨b, off, none⟩) m c) (p :: rest) → Calls Tryd.prog 79 #[.slice sa sn sc, .int .i64 t, .agg cs.toArray, .slice (some ⟨b, off, none⟩) m c] w (GetR w (getT s d t v (p :: rest)))) := hid ihd
  obtain ⟨a2, p2, a, cap, rfl, hbs, hn, hk, hnm, hkm⟩ := RdN.open h
  clear h hn
  obtain ⟨N, hN⟩ : ∃ N, N = (Node.kids v).length := ⟨_, rfl⟩
  rw [← hN] at hk hkm hK ⊢
  have HN := hid hN
  clear hN
  obtain ⟨o2, ho2, htail⟩ := Ints.behind hp hm
  obtain ⟨c9, hc9⟩ : ∃ x, c - 1 = x := ⟨_, rfl⟩
  rw [hc9] at htail
  obtain ⟨n, hnl⟩ : ∃ n, n = rest.length := ⟨_, rfl⟩
  rw [← hnl] at hm htail
  have Hn := hid hnl
  clear hnl
  subst hm
  obtain ⟨b', off', c', e, h2, h3, h4, h5⟩ := Row.cons hp (by simp)
  have h6 := hp.most
  simp only [Value.slice.injEq, Option.some.injEq, Addr.mk.injEq] at e
  obtain ⟨⟨rfl, rfl, _⟩, em, rfl⟩ := e
  clear em
  have c0 : w.cell? ⟨b, off, none⟩ = some (.int .i64 p) := h5 0 (by simp)
  clear h5 hp
  obtain ⟨w0, hw0, hb0, hlt0, hbox0⟩ := boxed w #[.slice sa sn sc] 27
  have s0 : w0.cell? ⟨w.heap.size, 0, none⟩ = some (.slice sa sn sc) := hbox0 0
  obtain ⟨w1, hw1, hb1, hlt1, hbox⟩ := boxed w0 #[U (Node.num v), .string (Node.bytes v), .slice a2 (Node.nums v).length p2, .slice a N cap] 32
  have x3 : w1.cell? ⟨w0.heap.size, 3, none⟩ = some (.slice a N cap) := hbox 3
  have c1 : w1.cell? ⟨b, off, none⟩ = some (.int .i64 p) := (hb1.cell (Nat.lt_of_lt_of_le h4 hb0.size)).trans ((hb0.cell h4).trans c0)
  have s1 : w1.cell? ⟨w.heap.size, 0, none⟩ = some (.slice sa sn sc) := (hb1.cell hlt0).trans s0
  have hb01 := via hb0 hb1
  have hs1 := hs.below hb01 (Nat.le_refl _)
  have hk1 := hk.below (kept_N (kept_S d)) hb01 (Nat.le_refl _)
  have ht1 := htail.below hb01 (Nat.le_refl _)
  clear hbox hbox0 hs hk htail c0 s0
  have hn1 : (1 : Int) ≤ (n : Int) + 1 := by omega
  have h41 : b < w1.heap.size := Nat.lt_of_lt_of_le (Nat.lt_of_lt_of_le h4 hb0.size) hb1.size
  by_cases hneg : p < 0
  · exact absurd hK.1 (by omega)
  · obtain ⟨i, rfl⟩ : ∃ i : Nat, p = i := ⟨p.toNat, by omega⟩
    have hKk := hK.2.2
    rw [Int.toNat_natCast] at hKk
    have hi : i < N := by have := hK.2.1; rw [Int.toNat_natCast] at this; exact this
    clear hK
    have hKi := hid hKk
    clear hKk
    obtain ⟨fk, hfk⟩ := get_lt (l := Node.kids v) (i := i) (by rw [← HN.out]; exact hi)
    obtain ⟨bf, of, a4, p4, a5, p5, rfl, hbb, q0, q1, q2, q3, hfb, hfn, hfkk, _, hfnn, hfm⟩ := Kids.at_ hk1 hfk
    obtain ⟨M, hM⟩ : ∃ M, M = fk.kids.length := ⟨_, rfl⟩
    obtain ⟨R, hR⟩ : ∃ R, R = fk.nums.length := ⟨_, rfl⟩
    rw [← hM] at hfkk hfm q3
    rw [← hR] at hfnn q2
    have hfn' : Row w1 1 (.slice a4 R p4) fk.nums.length (fk.nums.map U) := by rw [hR]; exact hfn
    have HM := hid hM
    have HR := hid hR
    have Hg := hid (show getT s (d + 1) t v ((i : Int) :: rest) = getF s (fun x r => getT s d (fieldP s t i).2 x r) (fieldP s t i).1 (fieldP s t i).2 fk rest by
      rw [getT, List.headD_cons, if_neg hneg, Int.toNat_natCast, hfk]; rfl)
    have hd : decide ((i : Int) < 0) = false := decide_eq_false hneg
    have hd2 : decide (N ≤ i) = false := decide_eq_false (by omega)
    clear hM hR hfk hfn hneg hk1
    rw [Hg.out]
    have Hkind := fun W (hW : Below w1.heap.size w1 W) => kind_any s (.slice sa sn sc) t i W (hs1.below hW (Nat.le_refl _))
    have Htype := fun W (hW : Below w1.heap.size w1 W) => type_any s (.slice sa sn sc) t i W (hs1.below hW (Nat.le_refl _))
    generalize (fieldP s t i).1 = kd at *
    generalize (fieldP s t i).2 = ty at *
    go_enter Tryd.func79, Tryd.ntmps79
    go_wp2_with fail
    go_quiet (fail)
    go_wp2_with fail
    have hzp : ∀ nq B j, B < w1.heap.size → ((w1.drewN nq).alloc (.cells #[.int .u64 0, .string { data := #[] }, .slice none 0 0, .slice none 0 0] 32)).cell? ⟨B, j, none⟩ = w1.cell? ⟨B, j, none⟩ := fun nq B j h => World.cell?_alloc_past _ _ _ h
    have z0 : ∀ nq, ((w1.drewN nq).alloc (.cells #[.int .u64 0, .string { data := #[] }, .slice none 0 0, .slice none 0 0] 32)).cell? ⟨w1.heap.size, 0, none⟩ = some (.int .u64 0) := fun nq => World.cell?_alloc_at _ _ _ _ rfl
    have z1 : ∀ nq, ((w1.drewN nq).alloc (.cells #[.int .u64 0, .string { data := #[] }, .slice none 0 0, .slice none 0 0] 32)).cell? ⟨w1.heap.size, 1, none⟩ = some (.string { data := #[] }) := fun nq => World.cell?_alloc_at _ _ _ _ rfl
    have z2 : ∀ nq, ((w1.drewN nq).alloc (.cells #[.int .u64 0, .string { data := #[] }, .slice none 0 0, .slice none 0 0] 32)).cell? ⟨w1.heap.size, 2, none⟩ = some (.slice none 0 0) := fun nq => World.cell?_alloc_at _ _ _ _ rfl
    have z3 : ∀ nq, ((w1.drewN nq).alloc (.cells #[.int .u64 0, .string { data := #[] }, .slice none 0 0, .slice none 0 0] 32)).cell? ⟨w1.heap.size, 3, none⟩ = some (.slice none 0 0) := fun nq => World.cell?_alloc_at _ _ _ _ rfl
    have zf : ∀ nq j, ((w1.drewN nq).alloc (.cells #[.int .u64 0, .string { data := #[] }, .slice none 0 0, .slice none 0 0] 32)).frozen? ⟨w1.heap.size, j, none⟩ = false := fun nq j => World.frozen?_alloc_at _ _ _ _ rfl
    have zc := fun nq => (hzp nq b off h41).trans c1
    have zq0 := fun nq => (hzp nq bf (of + i * 4) hbb).trans q0
    have zq1 := fun nq => (hzp nq bf (of + i * 4 + 1) hbb).trans q1
    have zq2 := fun nq => (hzp nq bf (of + i * 4 + 2) hbb).trans q2
    have zq3 := fun nq => (hzp nq bf (of + i * 4 + 3) hbb).trans q3
    have zx := fun nq => (hzp nq w0.heap.size 3 hlt1).trans x3
    have hneb : b ≠ w1.heap.size := by omega
    have zs : ∀ nq, ((((((w1.drewN nq).alloc (.cells #[.int .u64 0, .string { data := #[] }, .slice none 0 0, .slice none 0 0] 32)).setCell ⟨w1.heap.size, 0, none⟩ (U fk.num)).setCell ⟨w1.heap.size, 1, none⟩ (.string fk.bytes)).setCell ⟨w1.heap.size, 2, none⟩ (.slice a4 R p4)).setCell ⟨w1.heap.size, 3, none⟩ (.slice a5 M p5)).cell? ⟨b, off, none⟩ = some (.int .i64 i) := fun nq => by
      rw [World.cell?_setCell_other _ _ _ _ (by simp), World.cell?_setCell_other _ _ _ _ (by simp), World.cell?_setCell_other _ _ _ _ (by simp), World.cell?_setCell_other _ _ _ _ (by simp)]
      exact zc nq
    clear hzp
    go_region
    obtain ⟨W, hW, hbW, ltW, d0, d1, d2, d3⟩ := tree_copy w1 (nq + 1) (U fk.num) (.string fk.bytes) (.slice a4 R p4) (.slice a5 M p5)
    rw [hW]
    clear zc zq0 zq1 zq2 zq3 zx zs z0 z1 z2 z3 zf hW hw0 hw1 q0 q1 q2 q3 hneb x3 c1 hd hd2
    have sW : W.cell? ⟨w.heap.size, 0, none⟩ = some (.slice sa sn sc) := (hbW.cell (Nat.lt_of_lt_of_le hlt0 hb1.size)).trans s1
    have HT := Htype W hbW
    go_wp2_with (first
      | (go_at_call 35; refine HT.mono ?_; rintro r1 W2 ⟨rfl, hb2⟩; obtain ⟨W3, hW3, hb3, lt3, box3⟩ := boxed W2 #[.int .i64 ty] 3; have i3 : W3.cell? ⟨W2.heap.size, 0, none⟩ = some (.int .i64 ty) := box3 0; have hb23 : Below W.heap.size W W3 := hb2.trans (hb3.mono hb2.size); have s3 : W3.cell? ⟨w.heap.size, 0, none⟩ = some (.slice sa sn sc) := (hb23.cell (Nat.lt_of_lt_of_le (Nat.lt_of_lt_of_le hlt0 hb1.size) hbW.size)).trans sW; have HK := Hkind W3 (hbW.trans (hb23.mono hbW.size))))
    ((refine HK.mono ?_); rintro r1 W4 ⟨rfl, hb4⟩)
    have hb24 : Below W.heap.size W W4 := hb23.trans (hb4.mono hb23.size)
    have hb14 : Below w1.heap.size w1 W4 := hbW.trans (hb24.mono hbW.size)
    replace s3 := (hb4.cell (Nat.lt_of_lt_of_le (Nat.lt_of_lt_of_le (Nat.lt_of_lt_of_le hlt0 hb1.size) hbW.size) hb23.size)).trans s3
    replace i3 := (hb4.cell lt3).trans i3
    replace d0 := (hb24.cell ltW).trans d0
    replace d1 := (hb24.cell ltW).trans d1
    replace d2 := (hb24.cell ltW).trans d2
    replace d3 := (hb24.cell ltW).trans d3
    have hp4 := ht1.below hb14 (Nat.le_refl _)
    have hk4 := hfkk.below (kept_S d) hb14 (Nat.le_refl _)
    have hn4 := hfn'.below hb14 (Nat.le_refl _)
    have hs4 := hs1.below hb14 (Nat.le_refl _)
    have hB4 := hb01.trans (hb14.mono hb01.size)
    generalize w1.heap.size = D at d0 d1 d2 d3 ⊢
    generalize W2.heap.size = Q at *
    clear hW3 hb3 box3 hb23 HK HT hbW ltW sW s1 hs1 ht1 hb01 hb24 hb14 hb4 hb2 Hkind Htype hbb hfkk hfn'
    have HpB := pickB_any (.pointer (some ⟨D, 0, none⟩)) fk.bytes.size (byteV fk.bytes) rest (some ⟨b, o2, none⟩) n c9 W4 hfb Hn.out hp4 (fun j hj => getB_any D fk.bytes j hj W4 d1)
    have HpN := pickN_any (.pointer (some ⟨D, 0, none⟩)) R (fun j => fk.nums.getD j 0#64) rest (some ⟨b, o2, none⟩) n c9 W4 hfnn Hn.out hp4 (fun j hj => getN_any D fk.nums a4 R p4 HR.out j (by rw [← HR.out]; exact hj) W4 d2 hn4)
    have HpK := pickK_any (.pointer (some ⟨w.heap.size, 0, none⟩)) (.pointer (some ⟨Q, 0, none⟩)) M (fun _ => BitVec.ofNat 64 (typeL s ty).length) rest (some ⟨b, o2, none⟩) n c9 W4 hfm Hn.out hp4 (fun j hj => getK_any w.heap.size Q s (.slice sa sn sc) ty j W4 s3 i3 hs4)
    have HpKd := fun k => pickK_any (.pointer (some ⟨w.heap.size, 0, none⟩)) (.pointer (some ⟨Q, 0, none⟩)) M (fun _ => BitVec.ofNat 64 (typeL s ty).length) rest (some ⟨b, o2, none⟩) n c9 (W4.drewN k) hfm Hn.out hp4.drewN (fun j hj => getK_any w.heap.size Q s (.slice sa sn sc) ty j (W4.drewN k) s3 i3 hs4.drewN)
    have hKo := hKi.out
    clear hKi
    subst hKo
    by_cases hr : rest = []
    · have hr' := hr
      obtain rfl : n = 0 := by rw [Hn.out, hr]; rfl
      have Hv := hid (show getF s (fun x r => getT s d ty x r) 5 ty fk rest = pickV M rest (fun _ => BitVec.ofNat 64 (typeL s ty).length) by rw [hr]; simp [getF, endV, HM.out])
      clear hr hr'
      go_wp2_with fail
      go_quiet (fail)
      go_wp2_with (go_at_call 84; refine (HpKd _).mono ?_; rintro r5 W5 ⟨rfl, rfl⟩)
      go_returns
      exact ⟨by rw [Hv.out]; rfl, hB4.trans (below_drewN _ _ _)⟩
    · obtain ⟨p', r, hre⟩ := List.exists_cons_of_ne_nil hr
      have hr' := hr
      obtain ⟨b3, o3', c3', e, hnc, _, _, hcell⟩ := Row.cons hp4 (by rw [hre]; simp)
      simp only [Value.slice.injEq, Option.some.injEq, Addr.mk.injEq] at e
      obtain ⟨⟨rfl, rfl, _⟩, em, rfl⟩ := e
      clear em
      have c2 : W4.cell? ⟨b, o2, none⟩ = some (.int .i64 p') := by have := hcell 0 (by rw [hre]; simp); rw [hre] at this; exact this
      clear hcell
      by_cases hr2 : r = []
      · have hn1' : n = 1 := by rw [Hn.out, hre, hr2]; rfl
        have hnd1 : decide ((1 : Int) < (n : Int)) = false := decide_eq_false (by omega)
        clear hn1'
        have hn0 : 0 < n := by rw [Hn.out]; exact List.length_pos_iff.2 hr
        have hnd : decide ((0 : Int) < (n : Int)) = true := decide_eq_true (by omega)
        by_cases hM : M = 0
        · have hM0 : fk.kids.length = 0 := by rw [← HM.out]; exact hM
          have Hv := hid (show getF s (fun x r => getT s d ty x r) 5 ty fk rest = (0#64, 12) by rw [show getF s (fun x r => getT s d ty x r) 5 ty fk rest = endV s ty fk.kids.length rest by simp only [getF]; rw [hre, hr2]; simp, endV, if_pos ⟨hr, hM0⟩])
          subst hM
          clear hr
          (try clear hr2)
          (try clear hre)
          go_wp2_with fail
          go_quiet (fail)
          go_wp2_with fail
          go_returns
          exact ⟨by rw [Hv.out]; rfl, hB4.trans (below_drewN _ _ _)⟩
        · have hM0 : ¬ fk.kids.length = 0 := by rw [← HM.out]; exact hM
          have Hv := hid (show getF s (fun x r => getT s d ty x r) 5 ty fk rest = pickV M rest (fun _ => BitVec.ofNat 64 (typeL s ty).length) by rw [show getF s (fun x r => getT s d ty x r) 5 ty fk rest = endV s ty fk.kids.length rest by simp only [getF]; rw [hre, hr2]; simp, endV, if_neg (fun h => hM0 h.2), HM.out])
          have hMd : ((M : Int) == 0) = false := by rw [beq_eq_false_iff_ne]; omega
          clear hr
          (try clear hr2)
          (try clear hre)
          go_wp2_with fail
          go_quiet (fail)
          go_wp2_with (go_at_call 84; refine (HpKd _).mono ?_; rintro r5 W5 ⟨rfl, rfl⟩)
          go_returns
          exact ⟨by rw [Hv.out]; rfl, hB4.trans (below_drewN _ _ _)⟩
      · have hrl : 0 < r.length := List.length_pos_iff.2 hr2
        have hn2 : 1 < n := by rw [Hn.out, hre]; simp; omega
        have hnd1 : decide ((1 : Int) < (n : Int)) = true := decide_eq_true (by omega)
        have hn0 : 0 < n := by rw [Hn.out]; exact List.length_pos_iff.2 hr
        have hnd : decide ((0 : Int) < (n : Int)) = true := decide_eq_true (by omega)
        by_cases hp0 : p' < 0
        · have hpd : decide (0 ≤ p') = false := decide_eq_false (by omega)
          by_cases hM : M = 0
          · have hM0 : fk.kids.length = 0 := by rw [← HM.out]; exact hM
            have Hv := hid (show getF s (fun x r => getT s d ty x r) 5 ty fk rest = (0#64, 12) by rw [show getF s (fun x r => getT s d ty x r) 5 ty fk rest = endV s ty fk.kids.length rest by simp only [getF]; rw [hre, List.headD_cons]; simp [show ¬ 0 ≤ p' by omega], endV, if_pos ⟨hr, hM0⟩])
            subst hM
            clear hr
            (try clear hr2)
            (try clear hre)
            go_wp2_with fail
            go_quiet (fail)
            go_wp2_with fail
            go_returns
            exact ⟨by rw [Hv.out]; rfl, hB4.trans (below_drewN _ _ _)⟩
          · have hM0 : ¬ fk.kids.length = 0 := by rw [← HM.out]; exact hM
            have Hv := hid (show getF s (fun x r => getT s d ty x r) 5 ty fk rest = pickV M rest (fun _ => BitVec.ofNat 64 (typeL s ty).length) by rw [show getF s (fun x r => getT s d ty x r) 5 ty fk rest = endV s ty fk.kids.length rest by simp only [getF]; rw [hre, List.headD_cons]; simp [show ¬ 0 ≤ p' by omega], endV, if_neg (fun h => hM0 h.2), HM.out])
            have hMd : ((M : Int) == 0) = false := by rw [beq_eq_false_iff_ne]; omega
            clear hr
            (try clear hr2)
            (try clear hre)
            go_wp2_with fail
            go_quiet (fail)
            go_wp2_with (go_at_call 84; refine (HpKd _).mono ?_; rintro r5 W5 ⟨rfl, rfl⟩)
            go_returns
            exact ⟨by rw [Hv.out]; rfl, hB4.trans (below_drewN _ _ _)⟩
        · obtain ⟨j, rfl⟩ : ∃ j : Nat, p' = j := ⟨p'.toNat, by omega⟩
          have hpd : decide ((0 : Int) ≤ (j : Int)) = true := decide_eq_true (by omega)
          by_cases hjM : j < M
          · obtain ⟨x, hx⟩ := get_lt (l := fk.kids) (i := j) (by rw [← HM.out]; exact hjM)
            obtain ⟨b2, off2, xn, xb, e2, m2, t2, e3, m3, t3, rfl, hbb2, q0, q1, q2, q3, hrx⟩ := Kids.atS hk4 hx
            obtain ⟨p2', r2, hre2⟩ := List.exists_cons_of_ne_nil hr2
            obtain ⟨o4, ho4, htail⟩ := Ints.behind (p := (j : Int)) (l := r) (m := n) (by rw [← hre]; exact hp4) (by rw [Hn.out, hre]; rfl)
            obtain ⟨k, hkl⟩ : ∃ k, k = r.length := ⟨_, rfl⟩
            rw [← hkl] at htail
            obtain rfl : n = k + 1 := by rw [Hn.out, hre, hkl]; rfl
            have hcall := fun W (hW : Below W4.heap.size W4 W) => ih.out ty x _ p2' r2 b o4 k (c9 - 1) W (hs4.below hW (Nat.le_refl _)) (hrx.below hW (Nat.le_refl _)) (by rw [hkl, hre2]; rfl) (by have h := htail.below hW (Nat.le_refl _); rw [hkl, hre2] at h; rw [hkl, hre2]; exact h)
            have Hv := hid (show getF s (fun x r => getT s d ty x r) 5 ty fk rest = getT s d ty x (p2' :: r2) by rw [hre, hre2]; simp [getF, hx])
            have hjd : decide ((j : Int) < (M : Int)) = true := decide_eq_true (by omega)
            have hk1 : (1 : Int) ≤ (k : Int) + 1 := by omega
            have hkp : 0 < k := by omega
            have hkd : decide (0 < k) = true := decide_eq_true hkp
            have hkd1 : decide ((1 : Int) < (k : Int) + 1) = true := decide_eq_true (by omega)
            have hkd2 : decide ((0 : Int) < (k : Int)) = true := decide_eq_true (by omega)
            have hkc : (k : Int) + 1 ≤ (c9 : Int) := by rw [hre] at hnc; simp only [List.length_cons, ← hkl] at hnc; omega
            clear hx hre hr hr' hrx hk4 hre2 hr2 htail hrl hp0 hkl
            go_wp2_with fail
            go_quiet (fail)
            go_wp2_with fail
            go_region_held3 (fun W => W.cell? ⟨w.heap.size, 0, none⟩ = some (.slice sa sn sc) ∧ W.cell? ⟨Q, 0, none⟩ = some (.int .i64 ty) ∧ W.cell? ⟨D, 3, none⟩ = some (.slice (some ⟨b2, off2, none⟩) M p5) ∧ W.cell? ⟨b2, off2 + j * 4, none⟩ = some (U xn) ∧ W.cell? ⟨b2, off2 + j * 4 + 1, none⟩ = some (.string xb) ∧ W.cell? ⟨b2, off2 + j * 4 + 2, none⟩ = some (.slice e2 m2 t2) ∧ W.cell? ⟨b2, off2 + j * 4 + 3, none⟩ = some (.slice e3 m3 t3) ∧ W.cell? ⟨b, o2, none⟩ = some (.int .i64 j) ∧ Below W4.heap.size W4 W)
              (first | exact ⟨s3, i3, d3, q0, q1, q2, q3, c2, (below_drewN _ W4 nq).trans (below_drewN _ (W4.drewN nq) 1)⟩ | exact kept8 (by assumption) hb5)
              (first | (go_at_call 79; refine (hcall _ (kept8_end (by assumption))).mono ?_; rintro r5 W5 ⟨rfl, hb5⟩))
            have hB5 := kept8_end (W0 := W4) (W := W5) (by assumption)
            go_wp2_with fail
            go_returns
            exact ⟨by rw [Hv.out]; rfl, hB4.trans (hB5.mono hB4.size)⟩
          · have hjd : decide ((j : Int) < (M : Int)) = false := decide_eq_false (by omega)
            have hx0 : fk.kids[j]? = none := List.getElem?_eq_none (by rw [← HM.out]; omega)
            by_cases hM : M = 0
            · have hM0 : fk.kids.length = 0 := by rw [← HM.out]; exact hM
              have Hv := hid (show getF s (fun x r => getT s d ty x r) 5 ty fk rest = (0#64, 12) by rw [show getF s (fun x r => getT s d ty x r) 5 ty fk rest = endV s ty fk.kids.length rest by simp only [getF]; rw [hre, List.headD_cons, Int.toNat_natCast, hx0]; simp, endV, if_pos ⟨hr, hM0⟩])
              subst hM
              clear hr
              (try clear hr2)
              (try clear hre)
              go_wp2_with fail
              go_quiet (fail)
              go_wp2_with fail
              go_returns
              exact ⟨by rw [Hv.out]; rfl, hB4.trans (below_drewN _ _ _)⟩
            · have hM0 : ¬ fk.kids.length = 0 := by rw [← HM.out]; exact hM
              have Hv := hid (show getF s (fun x r => getT s d ty x r) 5 ty fk rest = pickV M rest (fun _ => BitVec.ofNat 64 (typeL s ty).length) by rw [show getF s (fun x r => getT s d ty x r) 5 ty fk rest = endV s ty fk.kids.length rest by simp only [getF]; rw [hre, List.headD_cons, Int.toNat_natCast, hx0]; simp, endV, if_neg (fun h => hM0 h.2), HM.out])
              have hMd : ((M : Int) == 0) = false := by rw [beq_eq_false_iff_ne]; omega
              clear hr
              (try clear hr2)
              (try clear hre)
              go_wp2_with fail
              go_quiet (fail)
              go_wp2_with (go_at_call 84; refine (HpKd _).mono ?_; rintro r5 W5 ⟨rfl, rfl⟩)
              go_returns
              exact ⟨by rw [Hv.out]; rfl, hB4.trans (below_drewN _ _ _)⟩
end STrGK5

section STrGetJ
open Go.RowKit

theorem get_any (s : Schema) (sa : Option Addr) (sn sc : Nat) (d : Nat) : ∀ (t : Int) (v : St d) (cs : List Value) (p : Int) (rest : List Int) (b off m c : Nat) (w : World), Sch w (.slice sa sn sc) s → RdS d w cs v →
    m = rest.length + 1 → Ints w (.slice (some ⟨b, off, none⟩) m c) (p :: rest) →
    Calls Tryd.prog 79 #[.slice sa sn sc, .int .i64 t, .agg cs.toArray, .slice (some ⟨b, off, none⟩) m c] w (GetR w (getT s d t v (p :: rest))) := by
  induction d with
  | zero => exact fun _ v _ _ _ _ _ _ _ _ _ _ _ _ => nomatch v
  | succ d ihd =>
    intro t v cs p rest b off m c w hs h hm hp
    by_cases h0 : p < 0 ∨ (Node.kids v).length ≤ p.toNat
    · exact get_k0 s sa sn sc d ihd t v cs p rest b off m c w hs h hm hp h0
    have h1 : 0 ≤ p ∧ p.toNat < (Node.kids v).length := by omega
    by_cases k1 : (fieldP s t p.toNat).1 = 1
    · exact get_k1 s sa sn sc d ihd t v cs p rest b off m c w hs h hm hp ⟨h1.1, h1.2, k1⟩
    by_cases k2 : (fieldP s t p.toNat).1 = 2
    · exact get_k2 s sa sn sc d ihd t v cs p rest b off m c w hs h hm hp ⟨h1.1, h1.2, k2⟩
    by_cases k3 : (fieldP s t p.toNat).1 = 3
    · exact get_k3 s sa sn sc d ihd t v cs p rest b off m c w hs h hm hp ⟨h1.1, h1.2, k3⟩
    by_cases k4 : (fieldP s t p.toNat).1 = 4
    · exact get_k4 s sa sn sc d ihd t v cs p rest b off m c w hs h hm hp ⟨h1.1, h1.2, k4⟩
    by_cases k5 : (fieldP s t p.toNat).1 = 5
    · exact get_k5 s sa sn sc d ihd t v cs p rest b off m c w hs h hm hp ⟨h1.1, h1.2, k5⟩
    exact get_k6 s sa sn sc d ihd t v cs p rest b off m c w hs h hm hp ⟨h1.1, h1.2, fun k a b => by
      have : k = 1 ∨ k = 2 ∨ k = 3 ∨ k = 4 ∨ k = 5 := by omega
      rcases this with rfl | rfl | rfl | rfl | rfl <;> assumption⟩
end STrGetJ

section STrGetC
open Go.RowKit

/-- What Get tells: a number, and a code. -/
def getC (s : Schema) (d : Nat) (t : Int) (v : St d) (path : List Int) : BitVec 64 × Int :=
  if checkC s d t v = 0 then (if path = [] then (0#64, 1) else getT s d t v path) else (0#64, checkC s d t v)

def GetP (w : World) (x : BitVec 64 × Int) (e : Ending) (w' : World) : Prop := e = .returned (.tuple #[U x.1, ErrV x.2]) ∧ Below w.heap.size w w'

set_option maxRecDepth 100000 in
set_option maxHeartbeats 4000000 in
theorem tget_any (s : Schema) (sv : Value) (d : Nat) (t : Int) (v : St d) (cs : List Value) (path : List Int) (pv : Value) (w : World) (hs : Sch w sv s) (h : RdS d w cs v) (hp : Ints w pv path) :
    Calls Tryd.prog 58 #[sv, .int .i64 t, .agg cs.toArray, pv] w (GetP w (getC s d t v path)) := by
  cases d with
  | zero => exact nomatch v
  | succ d =>
    obtain ⟨a2, p2, a, cap, hcs, hbs, hn, hk, hnm, hkm⟩ := RdN.open h
    subst hcs
    obtain ⟨sa, sc, hsv, _⟩ := hs.shape
    obtain ⟨sn, hsn⟩ : ∃ n, n = s.length := ⟨_, rfl⟩
    rw [← hsn] at hsv
    subst hsv
    clear hsn
    obtain ⟨w1, hw1, hb1, hlt1, hbox⟩ := boxed w #[U (Node.num v), .string (Node.bytes v), .slice a2 (Node.nums v).length p2, .slice a (Node.kids v).length cap] 32
    have x0 : w1.cell? ⟨w.heap.size, 0, none⟩ = some (U (Node.num v)) := hbox 0
    have x1 : w1.cell? ⟨w.heap.size, 1, none⟩ = some (.string (Node.bytes v)) := hbox 1
    have x2 : w1.cell? ⟨w.heap.size, 2, none⟩ = some (.slice a2 (Node.nums v).length p2) := hbox 2
    have x3 : w1.cell? ⟨w.heap.size, 3, none⟩ = some (.slice a (Node.kids v).length cap) := hbox 3
    have hck := hid (tcheck_any s (.slice sa sn sc) (d + 1) t v _ w1 (hs.below hb1 (Nat.le_refl _)) (h.below hb1 (Nat.le_refl _)))
    have hnew := hid fun (x : Int) W => new_err x W
    obtain ⟨pa, pc, hpv, _⟩ := hp.open
    by_cases hc : checkC s (d + 1) t v = 0
    · have Hc := hid hc
      cases path with
      | nil =>
        have Hg := hid (show getC s (d + 1) t v [] = (0#64, 1) by rw [getC, if_pos hc, if_pos rfl])
        obtain rfl : pv = .slice pa 0 pc := hpv
        rw [Hg.out]
        clear hs h hp hc hk hn hbox
        go_enter Tryd.func58, Tryd.ntmps58
        go_wp2_with fail
        ((refine hck.out.mono ?_); rintro r1 w2 ⟨rfl, hb2⟩)
        rw [Hc.out, show ErrV 0 = .nilIface from rfl]
        clear hw1 hck
        have hB2 := via hb1 hb2
        clear hb1 hb2 x0 x1 x2 x3
        go_wp2_with fail
        ((refine (hnew.out _ _).mono ?_); rintro r1 w4 ⟨rfl, rfl⟩)
        go_wp2_with fail
        go_returns
        exact ⟨rfl, hB2⟩
      | cons p rest =>
        obtain ⟨m, hm⟩ : ∃ m, m = rest.length + 1 := ⟨_, rfl⟩
        have hpv' : pv = .slice pa m pc := by rw [hm]; exact hpv
        subst hpv'
        clear hpv
        obtain ⟨b, off, c, e, _⟩ := Row.cons hp (by simp)
        simp only [Value.slice.injEq] at e
        obtain ⟨rfl, em, rfl⟩ := e
        clear em
        have Hg := hid (show getC s (d + 1) t v (p :: rest) = getT s (d + 1) t v (p :: rest) by rw [getC, if_pos hc, if_neg (by simp)])
        have hget := hid fun W (hW : Below w.heap.size w W) => get_any s sa sn sc (d + 1) t v _ p rest b off m pc W (hs.below hW (Nat.le_refl _)) (h.below hW (Nat.le_refl _)) hm (hp.below hW (Nat.le_refl _))
        have hmm : ((m : Int) == 0) = false := by rw [beq_eq_false_iff_ne]; omega
        rw [Hg.out]
        generalize getT s (d + 1) t v (p :: rest) = g at *
        clear hs h hm hp hc hk hn hbox
        go_enter Tryd.func58, Tryd.ntmps58
        go_wp2_with fail
        ((refine hck.out.mono ?_); rintro r1 w2 ⟨rfl, hb2⟩)
        rw [Hc.out, show ErrV 0 = .nilIface from rfl]
        clear hw1 hck
        have hB2 := via hb1 hb2
        replace x0 := (hb2.cell hlt1).trans x0
        replace x1 := (hb2.cell hlt1).trans x1
        replace x2 := (hb2.cell hlt1).trans x2
        replace x3 := (hb2.cell hlt1).trans x3
        clear hb1 hb2
        go_wp2_with fail
        ((refine (hget.out _ hB2).mono ?_); rintro r1 w3 ⟨rfl, hb3⟩)
        have hB3 := via hB2 hb3
        clear hget hB2 hb3 x0 x1 x2 x3
        go_wp2_with fail
        ((refine (hnew.out _ _).mono ?_); rintro r1 w4 ⟨rfl, rfl⟩)
        go_wp2_with fail
        go_returns
        exact ⟨rfl, hB3⟩
    · have Hg := hid (show getC s (d + 1) t v path = (0#64, checkC s (d + 1) t v) by rw [getC, if_neg hc])
      have He := hid (errV_ne hc)
      rw [Hg.out]
      have hck' := hck.out
      rw [He.out] at hck'
      have hE := hid (show ErrV (checkC s (d + 1) t v) = .iface 37 (.int .i64 (checkC s (d + 1) t v)) from He.out)
      generalize checkC s (d + 1) t v = x at *
      subst hpv
      clear hs h hp hc hk hn hbox hck He
      go_enter Tryd.func58, Tryd.ntmps58
      go_wp2_with fail
      ((refine hck'.mono ?_); rintro r1 w2 ⟨rfl, hb2⟩)
      clear hw1 hck'
      have hB2 := via hb1 hb2
      clear hb1 hb2 x0 x1 x2 x3
      go_wp2_with fail
      go_returns
      exact ⟨by rw [hE.out]; rfl, hB2⟩
end STrGetC

end Go.Proofs.YtblbhlgihlgncaaDoor


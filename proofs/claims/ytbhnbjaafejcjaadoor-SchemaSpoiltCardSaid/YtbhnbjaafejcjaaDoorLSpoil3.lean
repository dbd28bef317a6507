/- SchemaSpoilt: the walk, case 3. -/
import Derived.Test.YtbhnbjaafejcjaaDoorLTells
import Derived.Test.YtbhnbjaafejcjaaDoorSpoilV
import Derived.Deep.AppendLies
set_option linter.unusedVariables false
namespace Go.Proofs.YtbhnbjaafejcjaaDoor
open Go.RowKit

theorem boxed (w : World) (cs : Array Value) (T : TypeId) : ∃ w1, w.alloc (.cells cs T) = w1 ∧ Below w.heap.size w w1 ∧ w.heap.size < w1.heap.size ∧ ∀ j, w1.cell? ⟨w.heap.size, j, none⟩ = cs[j]? := by
  refine ⟨_, rfl, below_alloc _ _, by simp, fun j => ?_⟩
  have : (w.alloc (.cells cs T)).heap[w.heap.size]? = some (.cells cs T) := by show (w.heap.push _)[w.heap.size]? = _; simp
  simp only [World.cell?, this]
  rfl

set_option maxRecDepth 100000 in
set_option maxHeartbeats 8000000 in
theorem spoil_3 (l0 : List Int) (v : Value) (how q0 q1 : Int) (w : World) (hl : LaidE w) (hv : Row w 1 v l0.length (l0.map (Value.int .i64))) (hbl0 : ∀ z ∈ l0, -9223372036854775808 ≤ z ∧ z ≤ 9223372036854775807)
    (hq0 : -9223372036854775808 ≤ q0 ∧ q0 ≤ 9223372036854775807) (hq1 : -9223372036854775808 ≤ q1 ∧ q1 ≤ 9223372036854775807) (hhow : how % 8 = 3) :
    Calls Tryd.prog 3 #[v, .int .i64 how, .agg #[.int .i64 q0, .int .i64 q1]] w fun r w' => r = .returned (.bool true) ∧ Below w.heap.size w w' := by
  have h0 := hl.pos
  obtain ⟨iF, hiF, hzF, hsF, hbF⟩ := info_parts infoF
  obtain ⟨iS, hiS, hzS, hsS, hbS⟩ := info_parts infoFs
  obtain ⟨wq, hwq, hbq, hltq, ⟨b0, b1⟩⟩ : ∃ wq, w.alloc (.cells #[.int .i64 q0, .int .i64 q1] 23) = wq ∧ Below w.heap.size w wq ∧ w.heap.size < wq.heap.size ∧ (wq.cell? ⟨w.heap.size, 0, none⟩ = some (.int .i64 q0) ∧ wq.cell? ⟨w.heap.size, 1, none⟩ = some (.int .i64 q1)) :=
    ⟨_, rfl, below_alloc _ _, by simp, by simp [go_sem], by simp [go_sem]⟩
  have hvq := hv.lift hbq
  have hlq := hl.below hbq h0
  have hB := hbq.size
  have Hb := hid hbq
  have mA := fun W h => made5 l0 v W h hbl0
  have hok := madeS_ok l0
  have rA := hok.1
  have hn1 := hok.2.1
  have hn4 := hok.2.2.1
  have HrowA := hid hok.2.2.2
  generalize madeS l0 = s at *
  clear hv hl hbl0 hok
  go_enter Tryd.func3, Tryd.ntmps3
  go_wp2_with (go_at_call 11; refine (awake05 _).mono ?_; rintro r1 w1 ⟨rfl, h1⟩)
  ((refine (mA _ (hvq.lift h1)).mono ?_); rintro r2 w2 ⟨sa, rfl, h2, hsa⟩)
  have hb2 := via h1 h2
  have d0 := cell_below b0 hb2
  have d1 := cell_below b1 hb2
  obtain ⟨a, cap, rfl, hnc, hcm, _⟩ := hsa.shape
  obtain ⟨n, hn⟩ : ∃ n, n = s.length := ⟨_, rfl⟩
  rw [← hn] at hsa hnc hn1 hn4 ⊢
  have Hn := hid hn
  have cL := hid (fun W (hW : Below w2.heap.size w2 W) => hlq.below (hb2.trans (hW.mono hb2.size)) (Nat.lt_of_lt_of_le h0 hB))
  have Hsa := hid (fun W (hW : Below w2.heap.size w2 W) => hsa.below hW (Nat.le_refl _))
  have Hfin := hid (fun W (hW : Below w2.heap.size w2 W) => show Below w.heap.size w W from Hb.out.trans ((hb2.trans (hW.mono hb2.size)).mono hB))
  have HrA := hid rA
  clear mA hvq h1 h2 b0 b1 hlq hn rA hwq
  have hidx := nxt_go q0 n hn1 (by omega) hq0
  have hi0 := Int.emod_nonneg q0 (show (n : Int) ≠ 0 by omega)
  have hi1 := Int.emod_lt_of_pos q0 (show (0 : Int) < n by omega)
  obtain ⟨t, ht⟩ : ∃ t : Nat, q0 % (n : Int) = t := ⟨(q0 % (n : Int)).toNat, by omega⟩
  rw [ht] at hidx hi0 hi1
  have htn : t < n := by omega
  clear ht
  go_wp2_with fail
  go_loopw [10, 11] (fun xv i wr => ∃ k : Nat, k ≤ n ∧ i = .int .i64 k ∧ Below w2.heap.size w2 wr ∧ OwnX wr w2.heap.size xv (s.take k)) (fun _ i _ => n - (intOf i).toNat)
  case atStart => exact ⟨0, Nat.zero_le _, rfl, Below.refl _ _, ⟨[], fun _ => 0, fun _ => 0, own_nil _ _ _ _, fun j l h => by simp at h, fun j1 j2 h => by simp at h⟩⟩
  case round =>
    obtain ⟨k, hk, rfl, hbl, hown⟩ := hrel
    by_cases hlt : k < n
    · obtain ⟨l, hls⟩ := get_lt (l := s) (i := k) (by rw [← Hn.out]; exact hlt)
      obtain ⟨b, off, a2, cap2, rfl, hbb, hc, hf, hlm, hlc, hcm2⟩ := (Hsa.out wr hbl).at_ hls
      have hrow := HrowA.out l (List.mem_of_getElem? hls)
      obtain ⟨m, hm⟩ : ∃ m, m = l.length := ⟨_, rfl⟩
      rw [← hm] at hc hf hlm hlc hrow
      have Hm := hid hm
      have hm1 := hrow.1
      have hm4 := hrow.2
      obtain ⟨b2, off2, cc2, e2, _, _, hbb2, hcells⟩ := Row.cons hf (by rw [← Hm.out]; omega)
      simp only [Value.slice.injEq] at e2
      obtain ⟨rfl, em, rfl⟩ := e2
      clear em
      have hnews : ∀ (j : Nat) (u : Value), (fldsC l)[j]? = some u → (wr.alloc (.cells #[] 30)).cell? ((⟨b2, off2, none⟩ : Addr).add j) = some u := fun j u hu => by
        have hj : j < (fldsC l).length := (List.getElem?_eq_some_iff.1 hu).1
        rw [fldsC_length] at hj
        have hadd : (⟨b2, off2, none⟩ : Addr).add j = ⟨b2, off2 + j, none⟩ := by unfold Addr.add; split <;> simp_all
        rw [hadd, World.cell?_alloc_lt _ _ ⟨b2, off2 + j, none⟩ hbb2, hcells j (by omega)]
        exact hu
      have hone : ∀ u ∈ fldsC l, u.oneCell' = true := fun u hu => by
        obtain ⟨j, hj, rfl⟩ := List.mem_iff_getElem.1 hu
        obtain ⟨i, p, _, hjj⟩ := (show ∃ (i : Nat) (p : Int × Int), l[i]? = some p ∧ ((fldsC l)[j]? = some (.int .i64 p.1) ∨ (fldsC l)[j]? = some (.int .i64 p.2)) by
          have hj2 : j / 2 < l.length := by rw [fldsC_length] at hj; omega
          obtain ⟨p, hp⟩ := get_lt hj2
          obtain ⟨g1, g2⟩ := fldsC_get l (j / 2) p hp
          refine ⟨j / 2, p, hp, ?_⟩
          by_cases h : j % 2 = 0
          · left; rw [show j / 2 * 2 = j by omega] at g1; exact g1
          · right; rw [show j / 2 * 2 + 1 = j by omega] at g2; exact g2)
        rw [List.getElem?_eq_getElem hj] at hjj
        rcases hjj with h | h <;> rw [Option.some.inj h] <;> rfl
      have hfl : (fldsC l).length = m * 2 := by rw [fldsC_length, Hm.out]
      have Hfl := hid (And.intro hnews (And.intro hone hfl))
      have Hl := hid hls
      have hsz := hbl.size
      clear hf hcells hnews hone hfl hls hm hrow
      obtain ⟨a5, c5, rfl⟩ : ∃ a5 c5, u10 = Value.slice a5 k c5 := by
        obtain ⟨vs, G, C, o1, _, _⟩ := hown.ex
        rw [List.length_take, Nat.min_eq_left (by rw [← Hn.out]; omega)] at o1
        exact own_shape o1
      obtain ⟨wo, rfl⟩ : ∃ wo : World, wo = wr := ⟨_, rfl⟩
      unfold maxLen at hlm
      go_wp2_with (first
        | (at_builtin
           refine wpList_append_lies (w := wo.alloc (.cells #[] 30)) rfl (.tmp 35) (.tmp 39) 28 rfl wo.heap.size 30 iF _ 2 16 Tryd.underlying28 hiF hzF hsF hbF rfl (by omega) (.slice (some ⟨wo.heap.size, 0, none⟩) 0 0) 0 [] rfl (World.ownsRow_made wo #[] 0 (Nat.le_refl _) (by simp [maxLen]) rfl) ⟨b2, off2, none⟩ m cap2 (fldsC l) rfl Hfl.out.2.2 Hfl.out.1 Hfl.out.2.1 (by omega) (by unfold maxLen; omega) (by omega) (by simp) (wo.heap.size + 1) (by simp) ?_
           intro g cg w3 h6 h7 h8 h9
           have hB3 : Below w2.heap.size w2 w3 := (hbl.alloc hsz (.cells #[] 30)).grown h7 (by simp; omega) (fun q hq => by
             have : q = wo.heap.size := by simpa [Value.ownBlock] using hq.symm
             subst this; exact hsz)
           have hgw : wo.heap.size ≤ g := by
             rcases h8 with h8 | h8
             · have : wo.heap.size = g := by simpa [Value.ownBlock] using h8
               omega
             · omega
           rw [List.nil_append, Nat.zero_add] at h6
           have hwo3 : wo.grownBy w3 none := grown_more (grown_below (World.grownBy.refl wo none) (below_alloc wo (.cells #[] 30))) h7 (fun q hq => by
             have : q = wo.heap.size := by simpa [Value.ownBlock] using hq.symm
             exact .inl (by omega))
           obtain ⟨vs, G, C, o1, o2, o3⟩ := hown.ex
           rw [List.length_take, Nat.min_eq_left (by rw [← Hn.out]; omega)] at o1 o3
           have hb7 := below_alloc w3 (.cells #[.slice (some ⟨g, 0, none⟩) m cg] 28)
           have ho7 := own_beneath (own_keep o1 (fun q hq => hwo3.block q (own_blk o1 hq).1.lt (by simp))) hb7
           have hf7 := own_beneath h6 hb7
           have hbl7 := hB3.trans (hb7.mono hB3.size)
           have Ho2 := hid (show ∀ (j : Nat) (l : Fields), (s.take k)[j]? = some l → vs[j]? = some (.slice (some ⟨G j, 0, none⟩) l.length (C j)) ∧ (w3.alloc (.cells #[.slice (some ⟨g, 0, none⟩) m cg] 28)).ownsRow w2.heap.size 30 2 (.slice (some ⟨G j, 0, none⟩) l.length (C j)) l.length (fldsC l) ∧ G j < wo.heap.size from fun j l hl => by
             obtain ⟨g1, g2⟩ := o2 j l hl
             exact ⟨g1, own_beneath (own_keep g2 (fun q hq => hwo3.block q (own_blk g2 hq).1.lt (by simp))) hb7, (own_blk g2 (g := G j) rfl).1.lt⟩)
           have Ho3 := hid o3
           have Hvl := hid (show vs.length = k by have := o1.1; simpa using this)
           clear hown h6 h7 h8 hB3 hwo3 o1 o2 o3 hbl hb7)
        | (at_builtin; go_must (refine wpList_append_own _ rfl (.tmp 34) (.tmp 41) 26 rfl w2.heap.size 28 iS _ 1 24 Tryd.underlying26 hiS hzS hsS hbS rfl (by omega) _ k _ rfl ho7 ⟨w3.heap.size, 0, none⟩ 1 1 [.slice (some ⟨g, 0, none⟩) m cg] rfl rfl (news_at _ _ rfl #[.slice (some ⟨g, 0, none⟩) m cg] 28) (by simp [Value.oneCell']) (by unfold maxLen; omega) (by omega) hbl7.size ?_); intro v6 w6 ho8 hg8 _))
      have hb8 := below_own hbl7 ho7 (Nat.le_refl _) hg8 hbl7.size
      have hrel2 := hid (show OwnX w6 w2.heap.size v6 (s.take (k + 1)) from by
        have hlk : (s.take (k + 1)).length = k + 1 := by rw [List.length_take, ← Hn.out]; omega
        refine ⟨vs ++ [.slice (some ⟨g, 0, none⟩) m cg], fun j => if j < k then G j else g, fun j => if j < k then C j else cg, by rw [hlk]; exact ho8, fun j l' hl' => ?_, fun j1 j2 a1 a2 hne => ?_⟩
        · by_cases hj : j < k
          · rw [List.getElem?_take, if_pos (by omega)] at hl'
            obtain ⟨g1, g2, _⟩ := Ho2.out j l' (by rw [List.getElem?_take, if_pos hj]; exact hl')
            simp only [hj, if_true]
            exact ⟨by rw [List.getElem?_append_left (by rw [Hvl.out]; exact hj)]; exact g1, own_row g2 ho7 hg8 (by decide)⟩
          · have hjk : j = k := by
              have := (List.getElem?_eq_some_iff.1 hl').1
              rw [hlk] at this; omega
            subst hjk
            rw [List.getElem?_take, if_pos (by omega), Hl.out] at hl'
            obtain rfl := Option.some.inj hl'
            simp only [Nat.lt_irrefl, if_false]
            rw [← Hm.out]
            exact ⟨by rw [← Hvl.out, List.getElem?_append_right (Nat.le_refl _)]; simp, own_base (own_row hf7 ho7 hg8 (by decide)) hsz⟩
        · rw [hlk] at a1 a2
          have key : ∀ j, j < k → G j < g := fun j hj => by
            obtain ⟨l', hl'⟩ := get_lt (l := s.take k) (i := j) (by rw [List.length_take, ← Hn.out]; omega)
            have := (Ho2.out j l' hl').2.2
            omega
          by_cases h1 : j1 < k <;> by_cases h2 : j2 < k
          · simp only [h1, h2, if_true]; exact Ho3.out j1 j2 h1 h2 hne
          · simp only [h1, h2, if_true, if_false]; have := key j1 h1; omega
          · simp only [h1, h2, if_true, if_false]; have := key j2 h2; omega
          · omega)
      clear ho7 hf7 ho8 hg8
      go_roundw
      case rel => exact ⟨k + 1, by omega, by go_num, hb8, hrel2.out⟩
      case measure => simp [intOf] <;> omega
    · obtain rfl : k = n := by omega
      rw [show s.take k = s from List.take_of_length_le (by rw [← Hn.out]; exact Nat.le_refl _)] at hown
      -- BEHIND
      have hrightS := HrA.out
      obtain ⟨l, hls⟩ := get_lt (l := s) (i := t) (by rw [← Hn.out]; exact htn)
      have hrow := HrowA.out l (List.mem_of_getElem? hls)
      obtain ⟨gx, cx, g, c, rfl, hgx, hgB, hgne, hxl, hxc, hlc, hcc, cx0, fx0, hcells, hfz, hst1, hst2⟩ := hown.at_ hls hrow.1
      obtain ⟨m, hm⟩ : ∃ m, m = l.length := ⟨_, rfl⟩
      have Hm := hid hm
      have Hown := hid hown
      rw [← Hn.out] at hxl ⊢
      rw [← hm] at hlc cx0 hrow
      have hm1 := hrow.1
      have hm4 := hrow.2
      have hidx2 := nxt_go q1 m hm1 (by omega) hq1
      have hj0 := Int.emod_nonneg q1 (show (m : Int) ≠ 0 by omega)
      have hj1 := Int.emod_lt_of_pos q1 (show (0 : Int) < m by omega)
      obtain ⟨i, hi⟩ : ∃ i : Nat, q1 % (m : Int) = i := ⟨(q1 % (m : Int)).toNat, by omega⟩
      rw [hi] at hidx2 hj0 hj1
      have him : i < m := by omega
      obtain ⟨p, hp⟩ : ∃ p, l[i]? = some p := get_lt (by rw [← Hm.out]; exact him)
      have Hp := hid hp
      have Hls := hid hls
      have e0 := cell_below d0 hbl
      have e1 := cell_below d1 hbl
      clear hcells hfz hst1 hst2 hi hm hrow hls hown d0 d1 hp
      go_wp2_with fail
      go_quiet (fail)
      obtain ⟨wn, hwn, hbn0, hnlt, hnbox⟩ := boxed (wr.drewN nq) #[.int .i64 1, .int .i64 0] 30
      have hbn : Below wr.heap.size wr wn := (below_drewN wr.heap.size wr nq).trans hbn0
      have hbl2 : Below w2.heap.size w2 wn := hbl.trans (hbn.mono hbl.size)
      obtain ⟨gx', cx', g', c', e1', hgx', hgB', hgne', hxl', hxc', hlc', hcc', cx0', fx0', hcells', hfz', hst1', hst2'⟩ := (Hown.out.keep hbn).at_ Hls.out (by rw [← Hm.out]; exact hm1)
      obtain ⟨e2', _, e3'⟩ := Value.slice.inj e1'
      obtain ⟨rfl, _⟩ := Addr.mk.inj (Option.some.inj e2')
      subst e3'
      have e4' := (cell_below cx0 hbn).symm.trans cx0'
      obtain ⟨e5', _, e6'⟩ := Value.slice.inj (Option.some.inj e4')
      obtain ⟨rfl, _⟩ := Addr.mk.inj (Option.some.inj e5')
      subst e6'
      obtain ⟨ca, cb⟩ := hcells' i p Hp.out
      have fa := hfz' (i * 2)
      have fb := hfz' (i * 2 + 1)
      have cx1 := cell_below cx0 hbn
      have hS1 := hid (fun a => hst1' i p a Hp.out)
      have hS2 := hid (fun a b => hst2' i p a b Hp.out)
      have e1 := cell_below e1 hbn
      have hn0 : wn.cell? ⟨wr.heap.size, 0, none⟩ = some (.int .i64 1) := hnbox 0
      have hn1 : wn.cell? ⟨wr.heap.size, 1, none⟩ = some (.int .i64 0) := hnbox 1
      have hnlt : wr.heap.size < wn.heap.size := hnlt
      clear hnbox hbn0 hst1' hst2' e1' e2' e4' e5' hgx' hgB' hgne' hxl' hxc' hlc' hcc' cx0' fx0' hcells' hfz' cx0 fx0 e0
      go_wp2_with fail
      have hxS := (hS2.out (5) ((k : Int))).sch
      rw [← Hn.out] at hxS
      have hbad : rightB (s.set t (l.set i (5, (k : Int)))) = false := bad_row (by rw [← Hn.out]; exact htn) (bad_field (by rw [← Hm.out]; exact him) (by unfold fOk; rw [← Hn.out]; exact decide_eq_false (by intro h; omega)))
      have hbS : Below w2.heap.size w2 ((wn.setCell ⟨g, i * 2, none⟩ (.int .i64 (5))).setCell ⟨g, i * 2 + 1, none⟩ (.int .i64 ((k : Int)))) := (hbl2.setCell hgB _).setCell hgB _
      clear hS1 hS2 ca cb fa fb cx1 e1 hn0 hn1
      generalize (wn.setCell ⟨g, i * 2, none⟩ (.int .i64 (5))).setCell ⟨g, i * 2 + 1, none⟩ (.int .i64 ((k : Int))) = wS at *
      generalize s.set t (l.set i (5, (k : Int))) = xs at *
      have hsS := Hsa.out wS hbS
      have cL2 := cL.out wS hbS
      have fin := Hfin.out wS hbS
      have hws := Nat.lt_of_lt_of_le (Nat.lt_of_lt_of_le (Nat.lt_of_lt_of_le h0 hB) hb2.size) hbS.size
      have hch : Calls Tryd.prog 14 #[.slice a k cap] wS fun r w' => r = .returned .nilIface ∧ Below wS.heap.size wS w' := by
        have := check_any s _ wS hsS
        rw [hrightS] at this; exact this
      have hcx : ∀ W, Below wS.heap.size wS W → Calls Tryd.prog 14 #[.slice (some ⟨gx, 0, none⟩) k cx] W fun r w' => r = .returned (.iface 31 (.int .i64 1)) ∧ Below W.heap.size W w' := fun W hW => by
        have := check_any xs _ W (hxS.lift hW)
        rw [hbad] at this; exact this
      have hpk : ∀ W, Below wS.heap.size wS W → Calls Tryd.prog 15 #[.slice (some ⟨gx, 0, none⟩) k cx] W fun r w' => ∃ a3 c3, r = .returned (.slice a3 0 c3) ∧ Below W.heap.size W w' := fun W hW => by
        refine (pack5_no xs _ W (hxS.lift hW) hbad).mono fun r w' ⟨v3, h1, h2, h3⟩ => ?_
        rw [show packS xs = [] by rw [packS, hbad]; rfl] at h3
        obtain ⟨a3, c3, rfl, _⟩ := h3.shape
        exact ⟨a3, c3, h1, h2⟩
      have hdx : ∀ W, Below wS.heap.size wS W → Calls Tryd.prog 16 #[.slice (some ⟨gx, 0, none⟩) k cx, .int .i64 0] W fun r w' => r = .returned (.int .i64 0) ∧ Below W.heap.size W w' := fun W hW => by
        have := sdeep_any xs _ 0 W (hxS.lift hW)
        rw [show deepV xs 0 = 0 by rw [deepV, hbad]; rfl] at this; exact this
      obtain ⟨z, hz1, hz2, hds⟩ : ∃ z : Nat, 1 ≤ z ∧ z ≤ 6 ∧ ∀ W, Below wS.heap.size wS W → Calls Tryd.prog 16 #[.slice a k cap, .int .i64 0] W fun r w' => r = .returned (.int .i64 z) ∧ Below W.heap.size W w' := by
        refine ⟨deepV s 0, ?_, ?_, fun W hW => sdeep_any s _ 0 W (hsS.lift hW)⟩
        · rw [deepV, if_pos ⟨hrightS, by omega, by rw [← Hn.out]; omega⟩]; exact deepL_pos _ _ _
        · rw [deepV, if_pos ⟨hrightS, by omega, by rw [← Hn.out]; omega⟩]; exact deepL_le s 5 0
      clear hsS Hsa HrA hrightS Hfin hxS hbad cL hbS hidx hi0 hi1 htn hk hlt hgx hgB hgne hxl hxc hlc hcc hm1 hm4 hidx2 hj0 hj1 him Hp Hls Hown Hm Hn HrowA hn1 hn4 hnc hcm hq0 hq1
      ((refine hch.mono ?_); rintro r5 w5 ⟨rfl, h5⟩)
      go_wp2_with fail
      ((refine (top_nil _).mono ?_); rintro r6 w6 ⟨rfl, h6⟩)
      replace h5 := h5.trans (h6.mono h5.size)
      clear h6 hch
      go_wp2_with fail
      ((refine (hcx _ h5).mono ?_); rintro r6 w7 ⟨rfl, h6⟩)
      replace h5 := h5.trans (h6.mono h5.size)
      clear h6 hcx
      go_wp2_with fail
      ((refine (top_code 1 _ (cL2.below h5 hws)).mono ?_); rintro r6 w8 ⟨rfl, h6⟩)
      replace h5 := h5.trans (h6.mono h5.size)
      clear h6
      go_wp2_with fail
      ((refine (hpk _ h5).mono ?_); rintro r6 w9 ⟨a3, c3, rfl, h6⟩)
      replace h5 := h5.trans (h6.mono h5.size)
      clear h6 hpk
      go_wp2_with fail
      ((refine (hdx _ h5).mono ?_); rintro r6 wA ⟨rfl, h6⟩)
      replace h5 := h5.trans (h6.mono h5.size)
      clear h6 hdx
      go_wp2_with fail
      ((refine (hds _ h5).mono ?_); rintro r6 wB ⟨rfl, h6⟩)
      replace h5 := h5.trans (h6.mono h5.size)
      clear h6 hds
      have hzd : decide (0 < z) = true := decide_eq_true (by omega)
      go_wp2_with fail
      go_ret
      exact ⟨rfl, fin.trans (h5.mono fin.size)⟩

end Go.Proofs.YtbhnbjaafejcjaaDoor


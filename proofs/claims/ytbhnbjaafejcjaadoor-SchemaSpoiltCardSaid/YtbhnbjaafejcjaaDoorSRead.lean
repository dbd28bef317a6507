/- schema.Read. -/
import Derived.Test.YtbhnbjaafejcjaaDoorSPack
import Derived.Test.YtbhnbjaafejcjaaDoorEqual
import Derived.Test.YtbhnbjaafejcjaaDoorBs2
import Derived.Test.YtbhnbjaafejcjaaDoorSchGet
set_option linter.unusedVariables false
namespace Go.Proofs.YtbhnbjaafejcjaaDoor
open Go.RowKit

/-- The slice value v is a schema of the call's own. -/
def OwnSch (w : World) (B : Nat) (v : Value) (n : Nat) (s : Schema) : Prop :=
  ∃ vs, w.ownsRow B 28 1 v n vs ∧ ∀ (i : Nat) (l : Fields), s[i]? = some l → ∃ u, vs[i]? = some u ∧ w.ownsRow B 30 2 u l.length (fldsC l)

theorem OwnSch.sch {w : World} {B n : Nat} {v : Value} {s : Schema} (h : OwnSch w B v n s) (hn : n = s.length) : Sch w v s := by
  obtain ⟨vs, h1, h2⟩ := h
  subst hn
  exact ⟨vs, Row.of_owns h1, fun i l hl => by obtain ⟨u, h3, h4⟩ := h2 i l hl; exact ⟨u, h3, Row.of_owns h4⟩⟩

theorem own_set {w : World} {base g n cap sz : Nat} {e : TypeId} {xs : List Value} (h : w.ownsRow base e sz (.slice (some ⟨g, 0, none⟩) n cap) n xs) (o : Nat) (u : Value) :
    (w.setCell ⟨g, o, none⟩ u).ownsRow base e sz (.slice (some ⟨g, 0, none⟩) n cap) n (xs.set o u) := by
  rcases h.2 with ⟨h', _⟩ | ⟨g', cap', cur, h', hb, hg, hn, hm, hs, ht⟩
  · simp at h'
  · simp only [Value.slice.injEq, Option.some.injEq, Addr.mk.injEq, and_true, true_and] at h'
    obtain ⟨rfl, rfl⟩ := h'
    refine ⟨by rw [List.length_set]; exact h.1, .inr ⟨g, cap, cur.setIfInBounds o u, rfl, hb, ?_, hn, hm, by simp [hs], ?_⟩⟩
    · unfold World.setCell
      simp [Array.getElem?_modify, hg]
    · rw [Array.toList_setIfInBounds, List.take_set, ht]

theorem set_two (A Z : List Value) (j : Nat) (a b : Value) (hA : A.length = j * 2) (hZ : j * 2 + 2 ≤ Z.length) : ((A ++ Z.drop (j * 2)).set (j * 2) a).set (j * 2 + 1) b = A ++ [a, b] ++ Z.drop ((j + 1) * 2) := by
  obtain ⟨p, q, hd⟩ : ∃ p q, Z.drop (j * 2) = p :: q :: Z.drop (j * 2 + 1 + 1) := ⟨_, _, by rw [List.drop_eq_getElem_cons (show j * 2 < Z.length by omega), List.drop_eq_getElem_cons (show j * 2 + 1 < Z.length by omega)]⟩
  rw [hd, List.set_append_right _ _ (by omega), List.set_append_right _ _ (by omega), hA]
  have e1 : j * 2 - j * 2 = 0 := by omega
  have e2 : j * 2 + 1 - j * 2 = 1 := by omega
  rw [e1, e2, show (j + 1) * 2 = j * 2 + 1 + 1 by omega]
  simp

theorem grown_trans_new {a w w' : World} {g : Nat} (h : a.grownBy w none) (k : w.grownBy w' (some g)) (hg : a.heap.size ≤ g) : a.grownBy w' none :=
  grown_more h k (fun g' e => .inl (by obtain rfl := Option.some.inj e; exact hg))

theorem words_bits (x : BitVec 64) : (x &&& 7#64) = BitVec.ofNat 64 (x.toNat % 8) := by
  apply BitVec.eq_of_toNat_eq
  rw [BitVec.toNat_and, BitVec.toNat_ofNat]
  have : 7 % 2 ^ 64 = 2 ^ 3 - 1 := by decide
  rw [this, Nat.and_two_pow_sub_one_eq_mod, BitVec.toNat_ofNat]
  have := x.isLt
  omega
theorem words_shr (x : BitVec 64) (k : Nat) : (x >>> k) = BitVec.ofNat 64 (x.toNat / 2 ^ k) := by
  apply BitVec.eq_of_toNat_eq
  rw [BitVec.toNat_ushiftRight, BitVec.toNat_ofNat, Nat.shiftRight_eq_div_pow]
  have h1 := x.isLt
  have := Nat.div_le_self x.toNat (2 ^ k)
  exact (Nat.mod_eq_of_lt (by omega)).symm

def ReadP (ws : List (BitVec 64)) (w : World) (e : Ending) (w' : World) : Prop :=
  ∃ v, e = .returned (.tuple #[v, ErrV (if readOk ws then 0 else 10)]) ∧ Below w.heap.size w w' ∧ Sch w' v (if readOk ws then readS ws else [])

theorem new_ten (w : World) : Calls Tryd.prog 44 #[.int .i64 10] w fun r w' => r = .returned (.iface 31 (.int .i64 10)) ∧ w' = w := by
  go_enter Tryd.func44, Tryd.ntmps44
  go_wp2
  go_returns
  exact ⟨rfl, rfl⟩

set_option maxRecDepth 100000 in
set_option maxHeartbeats 4000000 in
theorem read5_any (ws : List (BitVec 64)) (v : Value) (n : Nat) (w : World) (hw : Row w 1 v n (ws.map U)) (h9 : n ≤ 1000) : Calls Tryd.prog 19 #[v] w (ReadP ws w) := by
  obtain ⟨iF, hiF, hzF, hsF, hbF⟩ := info_parts infoF
  obtain ⟨iS, hiS, hzS, hsS, hbS⟩ := info_parts infoFs
  have hwl : ws.length = n := by have := hw.len; simpa using this
  obtain ⟨a, cap, rfl, hnc, hcm, hcell⟩ := hw.open
  have Hwl := hid hwl
  clear hwl
  go_enter Tryd.func19, Tryd.ntmps19
  go_wp2_with fail
  go_loopw [4, 11] (fun sv i wr => ∃ k : Nat, k ≤ n ∧ i = .int .i64 k ∧ Below w.heap.size w wr ∧ OwnSch wr w.heap.size sv k (readS (ws.take k))) (fun _ i _ => n - (intOf i).toNat)
  case atStart => exact ⟨0, Nat.zero_le _, rfl, Below.refl _ _, [], own_nil _ _ _ _, fun i l h => by simp [readS] at h⟩
  case round =>
    obtain ⟨k, hk, rfl, hbl, hown⟩ := hrel
    by_cases hlt : k < n
    · obtain ⟨b, off, rfl, hbb, hc1⟩ := hcell (by omega)
      have hxk : ws[k]? = some (ws.getD k 0#64) := by
        rw [List.getD_eq_getElem?_getD, List.getElem?_eq_getElem (by rw [Hwl.out]; exact hlt)]; rfl
      have ck : wr.cell? ⟨b, off + k, none⟩ = some (U (ws.getD k 0#64)) := by rw [hbl.cell (p := ⟨b, off + k, none⟩) hbb, hc1 k (by omega), List.getElem?_map, hxk]; rfl
      generalize ws.getD k 0#64 = x at *
      have Hxk := hid hxk
      clear hxk hc1
      have hm8 : (x &&& 7#64).toNat < 8 := by rw [words_bits, BitVec.toNat_ofNat]; omega
      have hb0 := hbl.size
      go_wp2_with ((refine wpList_make_full _ rfl (.tmp 16) (.tmp 16) 28 rfl wr.heap.size 30 iF _ 2 Tryd.underlying28 hiF hzF hsF .u64 .u64 ((x &&& 7#64).toNat : Int) ((x &&& 7#64).toNat : Int) (x &&& 7#64).toNat rfl rfl rfl rfl (by rw [hbF]; omega) (by unfold maxLen; omega) (Nat.le_refl _) ?_); intro w5 ho5 hg5)
      have e8 : (x &&& 7#64).toNat = x.toNat &&& 7 := BitVec.toNat_and ..
      have e9 : x.toNat &&& 7 = x.toNat % 8 := by rw [← e8, words_bits, BitVec.toNat_ofNat]; omega
      rw [e8] at ho5 hm8
      have hx3 : x >>> 3 = BitVec.ofNat 64 (x.toNat / 8) := words_shr x 3
      rw [hx3]
      have Hfin := hid (show readN x.toNat = unN (x.toNat &&& 7) (x.toNat / 8) by rw [readN, e9])
      have hX : x.toNat / 8 < 2305843009213693952 := by have := x.isLt; omega
      clear e8 e9 hx3 ck
      obtain ⟨Z, hZ⟩ : ∃ Z, Z = (madeCells (Value.agg #[Value.int IntKind.i64 0, Value.int IntKind.i64 0]).cells ((x.toNat &&& 7) * 2)).toList := ⟨_, rfl⟩
      rw [← hZ] at ho5
      generalize x.toNat &&& 7 = m at *
      generalize x.toNat / 8 = X at *
      have hZl : Z.length = m * 2 := ho5.1
      have hG : wr.heap.size < w5.heap.size := by
        obtain ⟨cur, fr, h⟩ := (own_blk ho5 rfl).1
        exact (own_blk ho5 rfl).1.lt
      clear hZ
      obtain ⟨G, hGe⟩ : ∃ G, G = wr.heap.size := ⟨_, rfl⟩
      rw [← hGe] at ho5 hG ⊢
      have HG := hid hGe
      clear hGe
      have hul := unN_length m X
      obtain ⟨wo, rfl⟩ : ∃ wo : World, wo = wr := ⟨_, rfl⟩
      go_loopw [6, 22] (fun y j wz => ∃ i : Nat, i ≤ m ∧ j = .int .i64 i ∧ y = U (BitVec.ofNat 64 (X / 64 ^ i)) ∧ wz.ownsRow G 30 2 (.slice (some ⟨G, 0, none⟩) m m) m (fldsC ((unN m X).take i) ++ Z.drop (i * 2)) ∧ wo.grownBy wz none) (fun _ j _ => m - (intOf j).toNat)
      case atStart => exact ⟨0, Nat.zero_le _, rfl, by simp, by simpa [fldsC] using ho5, hg5⟩
      case round =>
        clear ho5 hg5
        obtain ⟨i, hi, rfl, rfl, ho, hgz⟩ := hrel
        by_cases hil : i < m
        · have hlen : (fldsC ((unN m X).take i)).length = i * 2 := by rw [fldsC_length, List.length_take, hul]; omega
          obtain ⟨z0, z1, hd⟩ : ∃ z0 z1, Z.drop (i * 2) = z0 :: z1 :: Z.drop (i * 2 + 1 + 1) := ⟨_, _, by rw [List.drop_eq_getElem_cons (show i * 2 < Z.length by omega), List.drop_eq_getElem_cons (show i * 2 + 1 < Z.length by omega)]⟩
          have c0 : wr.cell? ⟨G, i * 2, none⟩ = some z0 := by
            rw [ho.cellAt _ (by omega), List.getElem?_append_right (by omega), hlen, hd]; simp
          have c1 : wr.cell? ⟨G, i * 2 + 1, none⟩ = some z1 := by
            rw [ho.cellAt _ (by omega), List.getElem?_append_right (by omega), hlen, hd, show i * 2 + 1 - i * 2 = 1 by omega]; simp
          have f0 := ho.frozenAt (i * 2)
          have f1 := ho.frozenAt (i * 2 + 1)
          have Hset := hid (fun a b => set_two (fldsC ((unN m X).take i)) Z i a b hlen (by omega))
          have hY : X / 64 ^ i < 2305843009213693952 := Nat.lt_of_le_of_lt (Nat.div_le_self _ _) hX
          have Hget := hid (unN_get m X i hil)
          have HY := hid (show X / 64 ^ (i + 1) = X / 64 ^ i / 64 by rw [Nat.pow_succ, Nat.div_div_eq_div_mul])
          generalize X / 64 ^ i = Y at *
          have hyn : (BitVec.ofNat 64 Y).toNat = Y := by rw [BitVec.toNat_ofNat]; omega
          have hy1 : BitVec.ofNat 64 Y &&& 7#64 = BitVec.ofNat 64 (Y % 8) := by rw [words_bits, hyn]
          have hy3 : BitVec.ofNat 64 Y >>> 3 = BitVec.ofNat 64 (Y / 8) := by rw [words_shr, hyn]
          have hy6 : BitVec.ofNat 64 Y >>> 6 = BitVec.ofNat 64 (Y / 64) := by rw [words_shr, hyn]
          have hy2 : BitVec.ofNat 64 (Y / 8) &&& 7#64 = BitVec.ofNat 64 (Y / 8 % 8) := by rw [words_bits, BitVec.toNat_ofNat, Nat.mod_eq_of_lt (show Y / 8 < 2 ^ 64 by omega)]
          have hi1 : (BitVec.ofNat 64 (Y % 8)).toInt = ((Y % 8 : Nat) : Int) := by rw [BitVec.toInt_eq_toNat_of_lt (by rw [BitVec.toNat_ofNat]; omega), BitVec.toNat_ofNat, Nat.mod_eq_of_lt (show Y % 8 < 2 ^ 64 by omega)]
          have hi2 : (BitVec.ofNat 64 (Y / 8 % 8)).toInt = ((Y / 8 % 8 : Nat) : Int) := by rw [BitVec.toInt_eq_toNat_of_lt (by rw [BitVec.toNat_ofNat]; omega), BitVec.toNat_ofNat, Nat.mod_eq_of_lt (show Y / 8 % 8 < 2 ^ 64 by omega)]
          generalize Y % 8 = ka at *
          generalize Y / 8 % 8 = kb at *
          clear hd hlen hyn
          go_wp2_with fail
          have hle : wo.heap.size ≤ G := by rw [HG.out]; exact Nat.le_refl _
          go_roundw
          case rel => exact ⟨i + 1, by omega, by go_num, by rw [HY.out], by
            have h := own_set (own_set ho (i * 2) (.int .i64 (ka : Int))) (i * 2 + 1) (.int .i64 (kb : Int))
            rw [Hset.out] at h
            rw [List.take_add_one, Hget.out, fldsC_append]; exact h, grown_set (grown_set hgz (.inl hle) _) (.inl hle) _⟩
          case measure => simp [intOf] <;> omega
        · obtain rfl : i = m := by omega
          have hfull : fldsC ((unN i X).take i) ++ Z.drop (i * 2) = fldsC (unN i X) := by
            rw [List.take_of_length_le (by rw [hul]; exact Nat.le_refl _), List.drop_of_length_le (by omega), List.append_nil]
          rw [hfull] at ho
          have hSl : (readS (ws.take k)).length = k := by rw [readS, List.length_map, List.length_take, Hwl.out]; omega
          have hbl6 : Below w.heap.size w wr := hbl.grown hgz hbl.size (fun g hg => by cases hg)
          obtain ⟨vs, ho1, ho2⟩ := hown
          obtain ⟨a5, c5, rfl⟩ := own_shape ho1
          have hGw : w.heap.size ≤ G := by rw [HG.out]; exact hb0
          have hb7 := below_alloc wr (.cells #[.slice (some ⟨G, 0, none⟩) i i] 28)
          have ho7 := own_beneath (own_keep ho1 (fun g hg => hgz.block g (own_blk ho1 hg).1.lt (by simp))) hb7
          have hf7 := own_beneath ho hb7
          have hbl7 := hbl6.trans (hb7.mono hbl6.size)
          have Ho27 := hid (show ∀ (j : Nat) (l : Fields), (readS (ws.take k))[j]? = some l → ∃ u, vs[j]? = some u ∧ (wr.alloc (.cells #[.slice (some ⟨G, 0, none⟩) i i] 28)).ownsRow w.heap.size 30 2 u l.length (fldsC l) from fun j l hl => by
            obtain ⟨u, hu, h⟩ := ho2 j l hl
            exact ⟨u, hu, own_beneath (own_keep h (fun g hg => hgz.block g (own_blk h hg).1.lt (by simp))) hb7⟩)
          have Hnext := hid (show readS (ws.take (k + 1)) = readS (ws.take k) ++ [unN i X] by
            rw [readS, readS, List.take_add_one, Hxk.out, List.map_append]
            simp [Hfin.out])
          have HSl := hid hSl
          have hvl : vs.length = k := by have := ho1.1; simpa using this
          have Hvl := hid hvl
          have hul2 := hid hul
          clear ho ho1 ho2 hgz hbl hbl6 hb7 hSl hvl hul hfull hm8
          generalize readS (ws.take k) = SS at *
          generalize unN i X = F at *
          go_wp2_with (at_builtin; go_must (refine wpList_append_own _ rfl (.tmp 39) (.tmp 41) 26 rfl w.heap.size 28 iS _ 1 24 Tryd.underlying26 hiS hzS hsS hbS rfl (by omega) _ k _ rfl ho7 ⟨wr.heap.size, 0, none⟩ 1 1 [.slice (some ⟨G, 0, none⟩) i i] rfl rfl (news_at _ _ rfl #[.slice (some ⟨G, 0, none⟩) i i] 28) (by simp [Value.oneCell']) (by unfold maxLen; omega) (by omega) hbl7.size ?_); intro v6 w6 ho8 hg8 _)
          have hb8 := below_own hbl7 ho7 (Nat.le_refl _) hg8 hbl7.size
          have hrel2 := hid (show OwnSch w6 w.heap.size v6 (k + 1) (readS (ws.take (k + 1))) from by
            rw [Hnext.out]
            refine ⟨vs ++ [.slice (some ⟨G, 0, none⟩) i i], ho8, fun j l' hl' => ?_⟩
            by_cases hj : j < SS.length
            · rw [List.getElem?_append_left hj] at hl'
              obtain ⟨u, hu, h⟩ := Ho27.out j l' hl'
              exact ⟨u, by rw [List.getElem?_append_left (List.getElem?_eq_some_iff.1 hu).1]; exact hu, own_row h ho7 hg8 (by decide)⟩
            · have hj2 : j = SS.length := by
                have := (List.getElem?_eq_some_iff.1 hl').1
                simp at this; omega
              subst hj2
              rw [List.getElem?_append_right (Nat.le_refl _)] at hl'
              simp only [Nat.sub_self, List.getElem?_cons_zero] at hl'
              obtain rfl := Option.some.inj hl'
              refine ⟨.slice (some ⟨G, 0, none⟩) i i, by rw [HSl.out, ← Hvl.out, List.getElem?_append_right (Nat.le_refl _)]; simp, ?_⟩
              rw [hul2.out]
              exact own_base (own_row hf7 ho7 hg8 (by decide)) hGw)
          clear ho7 hf7 ho8 hg8
          go_roundw
          case rel => exact ⟨k + 1, by omega, by go_num, hb8, hrel2.out⟩
          case measure => simp [intOf] <;> omega
    · obtain rfl : k = n := by omega
      rw [show ws.take k = ws from List.take_of_length_le (by rw [Hwl.out]; exact Nat.le_refl _)] at hown
      have hSl : (readS ws).length = k := by rw [readS, List.length_map]; exact Hwl.out
      have hs := hown.sch hSl.symm
      have hright := right_any (readS ws) u4 wr hs
      have hok := readOk_eq ws
      have HwsR := hid hw
      clear hown hcell
      cases hrb : rightB (readS ws)
      · rw [hrb] at hright hok
        have Hend := hid (show readOk ws = false by rw [hok]; rfl)
        clear hok hrb hs hw hSl
        go_wp2_with (first
          | (go_at_call 43; refine hright.mono ?_; rintro r1 w1 ⟨rfl, hb1⟩)
          | (go_at_call 44; refine (new_ten _).mono ?_; rintro r1 w2 ⟨rfl, rfl⟩))
        go_returns
        exact ⟨_, by rw [Hend.out]; rfl, via (w := w) hbl hb1, by rw [Hend.out]; exact Sch.nil _⟩
      · rw [hrb, Bool.true_and] at hok
        rw [hrb] at hright
        have hpack := fun W (hW : Below wr.heap.size wr W) => pack5_yes (readS ws) u4 W (hs.below hW (Nat.le_refl _)) hrb
        obtain ⟨as', ac, rfl, hx1, hx2, hx3⟩ := hs.shape
        clear hx1 hx2 hx3 hSl
        by_cases he : packS (readS ws) = ws
        · have Hend := hid (show readOk ws = true by rw [hok]; exact decide_eq_true he)
          have Hbe := hid (show (packS (readS ws) == ws) = true from by rw [beq_iff_eq]; exact he)
          have Hs := hid hs
          have Hlen := hid (congrArg List.length he)
          clear hok hrb hs he
          go_wp2_with (first
            | (go_at_call 43; refine hright.mono ?_; rintro r1 w1 ⟨rfl, hb1⟩; have hp1 := hpack w1 hb1)
            | (go_at_call 15; refine hp1.mono ?_; rintro r1 w2 ⟨v2, rfl, hb2, hr2⟩; have heq := equal_any (packS (readS ws)) ws v2 _ _ k w2 hr2 (HwsR.out.below (via (via (w := w) hbl hb1) hb2) (Nat.le_refl _)); rw [Hbe.out] at heq)
            | (go_at_call 49; refine heq.mono ?_; rintro r1 w3 ⟨rfl, q3, rfl⟩))
          go_returns
          exact ⟨_, by rw [Hend.out]; rfl, (via (via (w := w) hbl hb1) hb2).trans (below_drewN _ _ _), by rw [Hend.out]; exact (Hs.out.below (hb1.trans ((hb2.trans (below_drewN _ _ _)).mono hb1.size)) (Nat.le_refl _))⟩
        · have Hend := hid (show readOk ws = false by rw [hok]; exact decide_eq_false he)
          have Hbe := hid (show (packS (readS ws) == ws) = false from by rw [beq_eq_false_iff_ne]; exact he)
          clear hok hrb hs he
          go_wp2_with (first
            | (go_at_call 43; refine hright.mono ?_; rintro r1 w1 ⟨rfl, hb1⟩; have hp1 := hpack w1 hb1)
            | (go_at_call 15; refine hp1.mono ?_; rintro r1 w2 ⟨v2, rfl, hb2, hr2⟩; have heq := equal_any (packS (readS ws)) ws v2 _ _ k w2 hr2 (HwsR.out.below (via (via (w := w) hbl hb1) hb2) (Nat.le_refl _)); rw [Hbe.out] at heq)
            | (go_at_call 49; refine heq.mono ?_; rintro r1 w3 ⟨rfl, q3, rfl⟩)
            | (go_at_call 44; refine (new_ten _).mono ?_; rintro r1 w4 ⟨rfl, rfl⟩))
          go_returns
          exact ⟨_, by rw [Hend.out]; rfl, (via (via (w := w) hbl hb1) hb2).trans (below_drewN _ _ _), by rw [Hend.out]; exact Sch.nil _⟩
end Go.Proofs.YtbhnbjaafejcjaaDoor


/- intagliolaw13.ControlApart: the law, by its cases. -/
import Derived.Test.YtbhnbjaafejcjaaDoorLApartF
set_option linter.unusedVariables false
namespace Go.Proofs.YtbhnbjaafejcjaaDoor
open Go.RowKit

theorem nxt_mod (x : Int) (hx : -9223372036854775808 ≤ x ∧ x ≤ 9223372036854775807) : wrap64 (1 + (wrap64 (x.tmod 65535 + 65535)).tmod 65535) = 1 + x % 65535 := by
  have h1 := Int.tmod_lt_of_pos x (show (0 : Int) < 65535 by omega)
  have h2 := Int.lt_tmod_of_pos x (show (0 : Int) < 65535 by omega)
  have hw : wrap64 (x.tmod 65535 + 65535) = x.tmod 65535 + 65535 := by simp only [wrap64]; omega
  have h3 : (x.tmod 65535 + 65535).tmod 65535 = x % 65535 := by
    rw [Int.tmod_eq_emod_of_nonneg (by omega), Int.add_emod_right, Int.tmod_eq_emod]
    split
    · simp
    · rw [show ((65535 : Int).natAbs : Int) = 65535 from rfl, Int.sub_emod, Int.emod_self]; simp
  rw [hw, h3]
  simp only [wrap64]; omega

theorem beq_no {α : Type} [BEq α] [LawfulBEq α] {β : Type} {a b : α} (f : α → β) (h : f a ≠ f b) : (a == b) = false := beq_eq_false_iff_ne.2 fun e => h (by rw [e])
theorem bne_yes {α : Type} [BEq α] [LawfulBEq α] {β : Type} {a b : α} (f : α → β) (h : f a ≠ f b) : (a != b) = true := bne_iff_ne.2 fun e => h (by rw [e])
theorem bne_no {a b : Int} (h : a = b) : (a != b) = false := by subst h; simp

theorem law_ControlApart (x : BitVec 64) (g : Int) (w : World) (hl : LaidE w) (hg : -9223372036854775808 ≤ g ∧ g ≤ 9223372036854775807) :
    Calls Tryd.prog 7 #[U x, .int .i64 g] w fun r w' => r = .returned (.bool true) ∧ Below w.heap.size w w' := by
  have hmod := nxt_mod g hg
  obtain ⟨p, hp⟩ : ∃ p, p = 1 + g % 65535 := ⟨_, rfl⟩
  rw [← hp] at hmod
  have hp1 : 1 ≤ p ∧ p ≤ 65535 := by omega
  have hxf := un_fits x
  have hx' : 0 ≤ unE x ∧ unE x ≤ 32767 ∧ 0 ≤ unG x ∧ unG x ≤ 2147483647 ∧ 0 ≤ unB x ∧ unB x ≤ 65535 := of_decide_eq_true hxf
  -- the words that come of x
  obtain ⟨gE, _, _, gL, _⟩ := pack_un ((unE x + 1) % 32768) 0 0 false false (fits_mk (by omega))
  obtain ⟨aE, _, _, aL, _⟩ := pack_un (unE (goneV x)) 0 0 true false (fits_mk (by rw [show unE (goneV x) = (unE x + 1) % 32768 from gE]; omega))
  obtain ⟨nE, _, _, nL, _⟩ := pack_un (unE x) 0 0 true false (fits_mk (by omega))
  obtain ⟨bE, bG, bB, bL, bU⟩ := pack_un (unE x) (unG x) (unB x) (unL x) true hxf
  have hGE : unE (goneV x) = (unE x + 1) % 32768 := gE
  have hAE : unE (bornV (goneV x)) = (unE x + 1) % 32768 := aE.trans hGE
  have hNE : unE (bornV x) = unE x := nE
  have hGL : unL (goneV x) = false := gL
  have hAL : unL (bornV (goneV x)) = true := aL
  have cA := born_any (goneV x)
  have ua : ∀ w, Calls Tryd.prog 30 #[U (bornV (goneV x))] w fun r w' => r = .returned (CV (unE (bornV (goneV x))) (unG (bornV (goneV x))) (unB (bornV (goneV x))) true (unU (bornV (goneV x)))) ∧ Below w.heap.size w w' := fun W => by
    have := unpack_any (bornV (goneV x)) W
    unfold unC at this
    rw [hAL] at this; exact this
  have ug : ∀ w, Calls Tryd.prog 30 #[U (goneV x)] w fun r w' => r = .returned (CV (unE (goneV x)) (unG (goneV x)) (unB (goneV x)) false (unU (goneV x))) ∧ Below w.heap.size w w' := fun W => by
    have := unpack_any (goneV x) W
    unfold unC at this
    rw [hGL] at this; exact this
  have hG : (goneV x != x) = true := bne_yes unE (by rw [hGE]; omega)
  have hAN : (bornV (goneV x) != bornV x) = true := bne_yes unE (by rw [hAE, hNE]; omega)
  have hAx : (bornV (goneV x) != x) = true := bne_yes unE (by rw [hAE]; omega)
  have hxp := un_pack x
  have cB := busy_any x
  have cX := written_any (busyV x)
  have cY := published_any x p
  have cG := gone_any x
  have cN := born_any x
  have ux := unpack_any x
  have uy := unpack_any (pubV x p)
  unfold unC at ux uy
  have te := fun W h => top_err (writtenC (busyV x)) W h
  have tf := fun W h => top_err (pubC x p) W h
  have hbE : unE (busyV x) = unE x := bE
  have hbG : unG (busyV x) = unG x := bG
  have hbL : unL (busyV x) = unL x := bL
  have hbU : unU (busyV x) = true := bU
  have hbB : unB (busyV x) = unB x := bB
  by_cases hT : unL x = true ∧ unG x < 2147483647
  · have hX : writtenV (busyV x) = ctlW (unE x) (unG x + 1) (unB x) true false := by
      simp only [writtenV, nextV, hbE, hbG, hbL, hbU, hbB, hT.1, hT.2, Bool.and_self, if_true]
    have hXc : writtenC (busyV x) = 0 := by
      simp only [writtenC, nextC, hbG, hbL, hbU, hT.1, hT.2, Bool.and_self, if_true]
    obtain ⟨_, wG, _, _, _⟩ := pack_un (unE x) (unG x + 1) (unB x) true false (fits_mk (by omega))
    rw [← hX] at wG
    have e1 : (writtenC (busyV x) == 0) = true := by rw [hXc]; rfl
    have e2 : (writtenV (busyV x) == x) = false := beq_no unG (by rw [wG]; omega)
    have e3 : (writtenV (busyV x) == busyV x) = false := beq_no unG (by rw [wG, hbG]; omega)
    have e4 : (!unL x) = false := by rw [hT.1]; rfl
    by_cases hU : unU x = true
    · have hpc : pubC x p = 13 := by simp only [pubC, hU, Bool.or_true, if_true]
      have f1 : (pubC x p == 0) = false := by rw [hpc]; rfl
      exact apart_walk_TF x _ _ _ _ _ _ p g _ _ _ _ _ _ _ _ _ _ _ _ _ _ _ _ _ _ true _ true _ _ _ w hl ⟨hx'.2.2.1, hx'.2.2.2.1⟩ hmod cB cX cY cG cA cN ux uy ua ug te tf e1 e2 e3 e4 f1 hG hAN hAx
    · have hU' : unU x = false := by simpa using hU
      have hpu : ctlW (unE x) (unG x) (unB x) true false = x := by rw [← hT.1, ← hU']; exact hxp
      have hpw := pub_W (e := unE x) (g := unG x) (b := unB x) (p := p) hxf hT.2 hp1
      rw [hpu] at hpw
      obtain ⟨_, yG, yB, _, _⟩ := pack_un (unE x) (unG x + 1) p true false (fits_mk (by omega))
      rw [← hpw.1] at yG yB
      have f1 : (pubC x p == 0) = true := by rw [hpw.2]; rfl
      have f2 : (pubV x p == x) = false := beq_no unG (by rw [yG]; omega)
      have f3 : (unB (pubV x p) != p) = false := bne_no yB
      have f5 : (unG (pubV x p) != unG x + 1) = false := bne_no yG
      have f4 : (unG (pubV x p) != IntKind.i64.wrap (unG x + 1)) = false := bne_no (by
        rw [yG]
        exact (IntWalk.i64_in _ (by omega)).symm)
      exact apart_walk_TT x _ _ _ _ _ _ p g _ _ _ _ _ _ _ _ _ _ _ _ _ _ _ _ _ _ true _ true _ _ _ w hl ⟨hx'.2.2.1, hx'.2.2.2.1⟩ hmod cB cX cY cG cA cN ux uy ua ug te tf e1 e2 e3 e4 f1 f2 f3 f4 f5 hG hAN hAx
  · have hXc : (writtenC (busyV x) == 0) = false := by
      simp only [writtenC, nextC, hbG, hbL, hbU, Bool.and_true]
      by_cases hL : unL x = true
      · rw [if_pos hL, if_neg (by intro h; exact hT ⟨hL, h⟩)]; rfl
      · rw [if_neg hL]; rfl
    have hpc : (pubC x p == 0) = false := by
      unfold pubC nextC
      by_cases hL : (!unL x || unU x) = true
      · rw [if_pos hL]; rfl
      · have hL2 : unL x = true := by simp at hL; exact hL.1
        rw [if_neg hL, if_neg (by omega), if_neg (by intro h; exact hT ⟨hL2, h⟩)]; rfl
    exact apart_walk_FF x _ _ _ _ _ _ p g _ _ _ _ _ _ _ _ _ _ _ _ _ _ _ _ _ _ true _ true _ _ _ w hl ⟨hx'.2.2.1, hx'.2.2.2.1⟩ hmod cB cX cY cG cA cN ux uy ua ug te tf hXc hpc hG hAN hAx
end Go.Proofs.YtbhnbjaafejcjaaDoor


/- CauseChains: a code over a trouble is on top; what was there stays below; its root, and its word, stay. -/
import Derived.Test.YtppdbadigecegaaDoorLCIs
set_option linter.unusedVariables false
set_option linter.unusedSimpArgs false
namespace Go.Proofs.YtppdbadigecegaaDoor
section SLCCh
open Go.RowKit

theorem wordL_code (c : Int) (L : List (Bool × Int)) : wordL ((false, c) :: L) = wordL L := rfl
theorem word_true : ∀ (L : List (Bool × Int)) (s : Int × Bool), s.2 = true → (L.foldl (fun s p => if p.1 then (p.2, true) else s) s).2 = true
  | [], s, h => h
  | (b, x) :: L, s, h => by
    rw [List.foldl_cons]
    refine word_true L _ ?_
    split
    · rfl
    · exact h
theorem wordL_word (x : Int) (L : List (Bool × Int)) : (wordL ((true, x) :: L)).2 = true := word_true L (x, true) rfl
theorem rootL_eq (L M : List (Bool × Int)) (h : codesL L = codesL M) : rootL L = rootL M := by unfold rootL; rw [h]
theorem codesL_code (c : Int) (L : List (Bool × Int)) : codesL ((false, c) :: L) = c :: codesL L := by rw [codesL_cons]; rfl
theorem rootL_code (c : Int) (L : List (Bool × Int)) : rootL ((false, c) :: L) = if (codesL L).length = 0 then c else (codesL L).getD ((codesL L).length - 1) 0 := by
  unfold rootL lastK
  rw [codesL_code, if_neg (by simp), List.length_cons, Nat.add_sub_cancel]
  cases h : codesL L with
  | nil => rfl
  | cons y l => simp
def ChR (wB : World) (n : Nat) (iv : Value) (wr : World) : Prop := ∃ k : Nat, k ≤ n ∧ iv = .int .i64 k ∧ Below wB.heap.size wB wr
theorem hasV_zero {w : World} {L : List (Bool × Int)} {v : Value} (h : TC w v L) (hG : GoodL L) : hasV L 0 = ((codesL L).length == 0) := by
  unfold hasV
  by_cases hL : L = []
  · subst hL; rfl
  · rw [if_neg hL]
    have h1 := h.codes hL
    have h2 : hasL L 0 = false := by
      unfold hasL
      rw [List.any_eq_false]
      intro x hx
      have := hG x hx
      simpa using this
    rw [h2]
    symm
    rw [beq_eq_false_iff_ne]
    omega
theorem hasV_code (c : Int) (L : List (Bool × Int)) (e : Int) : hasV ((false, c) :: L) e = (c == e || hasL L e) := by rw [hasV, if_neg (by simp), hasL_code]
theorem good_zero {L : List (Bool × Int)} (hG : GoodL L) : hasL L 0 = false := by
  unfold hasL
  rw [List.any_eq_false]
  intro x hx
  have := hG x hx
  simpa using this

set_option maxRecDepth 100000 in
set_option maxHeartbeats 8000000 in
theorem chains_walk (l : List (Int × Bool × Bool)) (sv : Value) (code word : Int) (w : World) (hl : LaidE w) (hrow : Row w 3 sv l.length (opsC l)) :
    Calls Tryd.prog 5 #[sv, .int .i64 code, .int .i64 word] w fun r w' => r = .returned (.bool true) ∧ Below w.heap.size w w' := by
  have hbuilt := hid fun W (hW : Below w.heap.size w W) => built_any l sv W (hrow.below hW (Nat.le_refl _))
  unfold BuiltP at hbuilt
  obtain ⟨sa, scap, rfl, -⟩ := hrow.open
  have Hl := hid fun W (hW : Below w.heap.size w W) => LaidE.below hl hW (LaidE.pos hl)
  obtain ⟨sn, hsn⟩ : ∃ sn, sn = l.length := ⟨_, rfl⟩
  rw [← hsn] at hbuilt ⊢
  clear hrow hl hsn
  by_cases hc : code = 0
  · have hcz : (code == 0) = true := by rw [hc]; rfl
    go_enter Tryd.func5, Tryd.ntmps5
    go_wp2_with fail
    ((refine (awake01 _).mono ?_); rintro r1 w1 ⟨rfl, hb1⟩)
    go_wp2_with fail
    ((refine (hbuilt.out _ hb1).mono ?_); rintro r2 w2 ⟨av, bv, L, rfl, hT, hL20, hG, hb2⟩)
    have hb12 := via hb1 hb2
    clear hbuilt
    have hcodes := hid (ccodes_any L av w2 hT (by omega))
    unfold CodesP at hcodes
    obtain ⟨cs, hcs⟩ : ∃ cs, cs = codesL L := ⟨_, rfl⟩
    have Hcs := hid hcs
    have hcl : cs.length ≤ 20 := by rw [hcs]; exact Nat.le_trans (codesL_le L) hL20
    have hHZ := hid (hasV_zero hT hG)
    have HT := hid fun W (hW : Below w2.heap.size w2 W) => hT.below hW
    have HG := hid hG
    obtain ⟨n, hn⟩ : ∃ n, n = cs.length := ⟨_, rfl⟩
    rw [← hcs, ← hn] at hcodes hHZ
    rw [← hn] at hcl
    have Hn := hid hn
    clear hT hG hcs hn
    go_wp2_with fail
    ((refine hcodes.out.mono ?_); rintro r3 w3 ⟨lv, rfl, hrow3, hb3⟩)
    rw [Hn.out] at hrow3
    obtain ⟨la, lc, rfl, -⟩ := hrow3.open
    rw [← Hn.out]
    have Hl3 := hid fun W (hW : Below w3.heap.size w3 W) (k : Nat) (hk : k < n) => codes_at (hrow3.below hW (Nat.le_refl _)) k (by have := Hn.out; omega)
    have hbec := hid (cbecause_any (1) L av w3 (HT.out _ hb3))
    rw [overL, if_neg (by decide)] at hbec
    clear hcodes hrow3
    go_wp2_with fail
    ((refine hbec.out.mono ?_); rintro r4 w4 ⟨b4, rfl, hT4, hb4⟩)
    have hb24 := via hb3 hb4
    have hcb := hid (ccodes_any ((false, 1) :: L) b4 w4 hT4 (by simp; omega))
    unfold CodesP at hcb
    rw [codesL_cons, if_neg (by decide), ← Hcs.out] at hcb
    have HT4 := hid fun W (hW : Below w4.heap.size w4 W) => hT4.below hW
    clear hbec hT4
    go_wp2_with fail
    ((refine hcb.out.mono ?_); rintro r5 w5 ⟨mv, rfl, hrow5, hb5⟩)
    have hlen5 : (1 :: cs).length = n + 1 := by rw [Hn.out]; rfl
    obtain ⟨ma, mc, rfl, -⟩ := hrow5.open
    have Hm5 := hid fun W (hW : Below w5.heap.size w5 W) (k : Nat) (hk : k < n + 1) => codes_at (hrow5.below hW (Nat.le_refl _)) k (by rw [hlen5]; exact hk)
    rw [hlen5]
    clear hcb hrow5 hlen5
    have hb45 : Below w4.heap.size w4 w5 := hb5
    have hb25 := via hb24 hb5
    go_wp2_with fail
    ((refine (cword_L L av w5 (HT.out _ hb25)).mono ?_); rintro r6 w6 ⟨rfl, hb6⟩)
    have hb46 := via hb45 hb6
    have hwb := hid (cword_L ((false, 1) :: L) b4 w6 (HT4.out _ hb46))
    rw [wordL_code] at hwb
    go_wp2_with fail
    ((refine hwb.out.mono ?_); rintro r7 w7 ⟨rfl, hb7⟩)
    have hb47 := via hb46 hb7
    have hat := hid (cat_any ((false, 1) :: L) b4 word w7 (HT4.out _ hb47))
    rw [atL, if_neg (by simp)] at hat
    clear hwb
    go_wp2_with fail
    ((refine hat.out.mono ?_); rintro r8 w8 ⟨c8, rfl, hT8, hb8⟩)
    have HT8 := hid fun W (hW : Below w8.heap.size w8 W) => hT8.below hW
    have hwc := hid (cword_L ((true, word) :: (false, 1) :: L) c8 w8 hT8)
    rw [show (wordL ((true, word) :: (false, 1) :: L)).2 = true from wordL_word _ _] at hwc
    clear hat hT8
    go_wp2_with fail
    ((refine hwc.out.mono ?_); rintro r9 w9 ⟨rfl, hb9⟩)
    have hb49 := via hb47 (via hb8 hb9)
    have hb59 := via hb6 (via hb7 (via hb8 hb9))
    have hb39 := via hb4 (via hb5 hb59)
    have hb19 := via hb12 (via hb3 hb39)
    have hb89 : Below w8.heap.size w8 w9 := hb9
    clear hwc
    obtain ⟨m0b, m0o, rfl, m0l, m0c⟩ := Hm5.out w9 hb59 0 (by omega)
    rw [Nat.add_zero, List.getD_cons_zero] at m0c
    have htopb := hid fun W (hW : Below w9.heap.size w9 W) => ctop_any ((false, 1) :: L) b4 W (HT4.out _ (via hb49 hW)) (Hl.out W (via hb19 hW))
    rw [topL_code] at htopb
    have hhasb := hid fun W (hW : Below w9.heap.size w9 W) => chas_any (1) ((false, 1) :: L) b4 W (HT4.out _ (via hb49 hW))
    rw [hasV_code, beq_self_eq_true, Bool.true_or] at hhasb
    have hnn : ((n : Int) + 1 != (n : Int) + 1) = false := by simp
    have hnw : IntKind.i64.wrap ((n : Int) + 1) = (n : Int) + 1 := IntWalk.i64_in _ (by omega)
    generalize (wordL L).1 = x1 at *
    generalize (wordL L).2 = x2 at *
    go_wp2_with (first
      | (go_at_call 15; refine (htopb.out _ (Below.refl _ _)).mono ?_; rintro rA wA ⟨rfl, hbA⟩)
      | (go_at_call 21; refine (hhasb.out _ hbA).mono ?_; rintro rB wB ⟨rfl, hbB⟩))
    have hb9B := via hbA hbB
    have hb5B := via hb59 hb9B
    have hb3B := via hb39 hb9B
    have hrel0 := hid (show ChR wB n (.int .i64 0) wB from ⟨0, Nat.zero_le _, rfl, Below.refl _ _⟩)
    clear m0c hnn hnw
    go_loopw [20] (fun iv wr => ChR wB n iv wr) (fun iv _ => n - (intOf iv).toNat)
    case atStart => exact hrel0.out
    case round =>
      clear hrel0
      obtain ⟨k, hk, rfl, hbr⟩ := hrel
      have hb5r := via hb5B hbr
      have hb3r := via hb3B hbr
      by_cases hlt : k < n
      · have hlt2 : (k : Int) < (n : Int) := by omega
        obtain ⟨lb, lo, rfl, hll, hlc⟩ := Hl3.out wr hb3r k hlt
        obtain ⟨mb, mo, hme, hml, hmc⟩ := Hm5.out wr hb5r (k + 1) (by omega)
        obtain ⟨rfl, rfl⟩ : m0b = mb ∧ m0o = mo := by simpa using hme
        rw [List.getD_cons_succ] at hmc
        have hkw : IntKind.i64.wrap ((k : Int) + 1) = ((k + 1 : Nat) : Int) := by rw [IntWalk.i64_in _ (by omega)]; omega
        have hkl : ((k + 1 : Nat) : Int) < ((n + 1 : Nat) : Int) := by omega
        have hrel2 := hid fun W (hW : Below wr.heap.size wr W) => show ChR wB n (.int .i64 (k + 1 : Nat)) W from ⟨k + 1, by omega, rfl, via hbr hW⟩
        generalize cs.getD k 0 = y at *
        clear hme
        go_wp2_with fail
        go_region
        go_wp2_with fail
        go_roundw
        case rel => exact hrel2.out _ (below_drewN _ wr 1)
        case measure => simp [intOf] <;> omega
      · obtain rfl : k = n := by omega
        have hlt2 : ¬ (k : Int) < (k : Int) := by omega
        have hb4r := via hb49 (via hb9B hbr)
        have hb8r := via hb89 (via hb9B hbr)
        have hb2r := via hb3 hb3r
        have hb1r := via hb19 (via hb9B hbr)
        have Hro := rootL_code (1) L
        rw [← Hcs.out, ← Hn.out] at Hro
        have hrootb := hid fun W (hW : Below wr.heap.size wr W) => croot_any ((false, 1) :: L) b4 W (HT4.out _ (via hb4r hW)) (by simp; omega)
        have hrootc := hid fun W (hW : Below wr.heap.size wr W) => croot_any ((true, word) :: (false, 1) :: L) c8 W (HT8.out _ (via hb8r hW)) (by simp; omega)
        rw [rootL_eq ((true, word) :: (false, 1) :: L) ((false, 1) :: L) rfl] at hrootc
        rw [Hro] at hrootb hrootc
        have htopc := hid fun W (hW : Below wr.heap.size wr W) => ctop_any ((true, word) :: (false, 1) :: L) c8 W (HT8.out _ (via hb8r hW)) (Hl.out W (via hb1r hW))
        rw [topL_word, topL_code] at htopc
        have hhasa := hid fun W (hW : Below wr.heap.size wr W) => chas_any 0 L av W (HT.out _ (via hb2r hW))
        rw [hHZ.out] at hhasa
        have hhasb0 := hid fun W (hW : Below wr.heap.size wr W) => chas_any 0 ((false, 1) :: L) b4 W (HT4.out _ (via hb4r hW))
        rw [hasV_code, good_zero HG.out, Bool.or_false, show ((1 : Int) == 0) = false from (by first | exact hcz | rfl)] at hhasb0
        by_cases hn0 : k = 0
        · subst hn0
          rw [if_pos rfl] at hrootb hrootc
          rw [show ((0 : Nat) == 0) = true from rfl] at hhasa
          clear Hro
          go_wp2_with fail
          ((refine (hrootb.out _ (Below.refl _ _)).mono ?_); rintro rP wP ⟨rfl, hbP⟩)
          go_wp2_with fail
          ((refine (htopc.out _ hbP).mono ?_); rintro rQ wQ ⟨rfl, hbQ⟩)
          have hbQ2 := via hbP hbQ
          go_wp2_with fail
          ((refine (hrootc.out _ hbQ2).mono ?_); rintro rR wR ⟨rfl, hbR⟩)
          have hbR2 := via hbQ2 hbR
          go_wp2_with fail
          ((refine (hhasa.out _ hbR2).mono ?_); rintro rS wS ⟨rfl, hbS⟩)
          have hbS2 := via hbR2 hbS
          go_wp2_with fail
          ((refine (hhasb0.out _ hbS2).mono ?_); rintro rU wU ⟨rfl, hbU⟩)
          go_wp2_with fail
          go_ret
          exact ⟨rfl, via hb1r (via hbS2 hbU)⟩
        · have hnp : (0 : Int) < (k : Int) := by omega
          have hnz : ((k : Int) == 0) = false := by rw [beq_eq_false_iff_ne]; omega
          rw [if_neg hn0] at hrootb hrootc
          rw [show (k == 0) = false from (by rw [beq_eq_false_iff_ne]; exact hn0)] at hhasa
          obtain ⟨lb, lo, rfl, hll, hlc⟩ := Hl3.out wr hb3r (k - 1) (by omega)
          have hkw : IntKind.i64.wrap ((k : Int) - 1) = ((k - 1 : Nat) : Int) := by rw [IntWalk.i64_in _ (by omega)]; omega
          have hkl : ((k - 1 : Nat) : Int) < (k : Int) := by omega
          generalize cs.getD (k - 1) 0 = y at *
          clear Hro
          go_wp2_with fail
          ((refine (hrootb.out _ (Below.refl _ _)).mono ?_); rintro rP wP ⟨rfl, hbP⟩)
          go_wp2_with fail
          ((refine (htopc.out _ hbP).mono ?_); rintro rQ wQ ⟨rfl, hbQ⟩)
          have hbQ2 := via hbP hbQ
          go_wp2_with fail
          ((refine (hrootc.out _ hbQ2).mono ?_); rintro rR wR ⟨rfl, hbR⟩)
          have hbR2 := via hbQ2 hbR
          go_wp2_with fail
          ((refine (hhasa.out _ hbR2).mono ?_); rintro rS wS ⟨rfl, hbS⟩)
          have hbS2 := via hbR2 hbS
          go_wp2_with fail
          ((refine (hhasb0.out _ hbS2).mono ?_); rintro rU wU ⟨rfl, hbU⟩)
          go_wp2_with fail
          go_ret
          exact ⟨rfl, via hb1r (via hbS2 hbU)⟩
  · have hcz : (code == 0) = false := by rw [beq_eq_false_iff_ne]; exact hc
    go_enter Tryd.func5, Tryd.ntmps5
    go_wp2_with fail
    ((refine (awake01 _).mono ?_); rintro r1 w1 ⟨rfl, hb1⟩)
    go_wp2_with fail
    ((refine (hbuilt.out _ hb1).mono ?_); rintro r2 w2 ⟨av, bv, L, rfl, hT, hL20, hG, hb2⟩)
    have hb12 := via hb1 hb2
    clear hbuilt
    have hcodes := hid (ccodes_any L av w2 hT (by omega))
    unfold CodesP at hcodes
    obtain ⟨cs, hcs⟩ : ∃ cs, cs = codesL L := ⟨_, rfl⟩
    have Hcs := hid hcs
    have hcl : cs.length ≤ 20 := by rw [hcs]; exact Nat.le_trans (codesL_le L) hL20
    have hHZ := hid (hasV_zero hT hG)
    have HT := hid fun W (hW : Below w2.heap.size w2 W) => hT.below hW
    have HG := hid hG
    obtain ⟨n, hn⟩ : ∃ n, n = cs.length := ⟨_, rfl⟩
    rw [← hcs, ← hn] at hcodes hHZ
    rw [← hn] at hcl
    have Hn := hid hn
    clear hT hG hcs hn
    go_wp2_with fail
    ((refine hcodes.out.mono ?_); rintro r3 w3 ⟨lv, rfl, hrow3, hb3⟩)
    rw [Hn.out] at hrow3
    obtain ⟨la, lc, rfl, -⟩ := hrow3.open
    rw [← Hn.out]
    have Hl3 := hid fun W (hW : Below w3.heap.size w3 W) (k : Nat) (hk : k < n) => codes_at (hrow3.below hW (Nat.le_refl _)) k (by have := Hn.out; omega)
    have hbec := hid (cbecause_any (code) L av w3 (HT.out _ hb3))
    rw [overL, if_neg (hc)] at hbec
    clear hcodes hrow3
    go_wp2_with fail
    ((refine hbec.out.mono ?_); rintro r4 w4 ⟨b4, rfl, hT4, hb4⟩)
    have hb24 := via hb3 hb4
    have hcb := hid (ccodes_any ((false, code) :: L) b4 w4 hT4 (by simp; omega))
    unfold CodesP at hcb
    rw [codesL_cons, if_neg (by decide), ← Hcs.out] at hcb
    have HT4 := hid fun W (hW : Below w4.heap.size w4 W) => hT4.below hW
    clear hbec hT4
    go_wp2_with fail
    ((refine hcb.out.mono ?_); rintro r5 w5 ⟨mv, rfl, hrow5, hb5⟩)
    have hlen5 : (code :: cs).length = n + 1 := by rw [Hn.out]; rfl
    obtain ⟨ma, mc, rfl, -⟩ := hrow5.open
    have Hm5 := hid fun W (hW : Below w5.heap.size w5 W) (k : Nat) (hk : k < n + 1) => codes_at (hrow5.below hW (Nat.le_refl _)) k (by rw [hlen5]; exact hk)
    rw [hlen5]
    clear hcb hrow5 hlen5
    have hb45 : Below w4.heap.size w4 w5 := hb5
    have hb25 := via hb24 hb5
    go_wp2_with fail
    ((refine (cword_L L av w5 (HT.out _ hb25)).mono ?_); rintro r6 w6 ⟨rfl, hb6⟩)
    have hb46 := via hb45 hb6
    have hwb := hid (cword_L ((false, code) :: L) b4 w6 (HT4.out _ hb46))
    rw [wordL_code] at hwb
    go_wp2_with fail
    ((refine hwb.out.mono ?_); rintro r7 w7 ⟨rfl, hb7⟩)
    have hb47 := via hb46 hb7
    have hat := hid (cat_any ((false, code) :: L) b4 word w7 (HT4.out _ hb47))
    rw [atL, if_neg (by simp)] at hat
    clear hwb
    go_wp2_with fail
    ((refine hat.out.mono ?_); rintro r8 w8 ⟨c8, rfl, hT8, hb8⟩)
    have HT8 := hid fun W (hW : Below w8.heap.size w8 W) => hT8.below hW
    have hwc := hid (cword_L ((true, word) :: (false, code) :: L) c8 w8 hT8)
    rw [show (wordL ((true, word) :: (false, code) :: L)).2 = true from wordL_word _ _] at hwc
    clear hat hT8
    go_wp2_with fail
    ((refine hwc.out.mono ?_); rintro r9 w9 ⟨rfl, hb9⟩)
    have hb49 := via hb47 (via hb8 hb9)
    have hb59 := via hb6 (via hb7 (via hb8 hb9))
    have hb39 := via hb4 (via hb5 hb59)
    have hb19 := via hb12 (via hb3 hb39)
    have hb89 : Below w8.heap.size w8 w9 := hb9
    clear hwc
    obtain ⟨m0b, m0o, rfl, m0l, m0c⟩ := Hm5.out w9 hb59 0 (by omega)
    rw [Nat.add_zero, List.getD_cons_zero] at m0c
    have htopb := hid fun W (hW : Below w9.heap.size w9 W) => ctop_any ((false, code) :: L) b4 W (HT4.out _ (via hb49 hW)) (Hl.out W (via hb19 hW))
    rw [topL_code] at htopb
    have hhasb := hid fun W (hW : Below w9.heap.size w9 W) => chas_any (code) ((false, code) :: L) b4 W (HT4.out _ (via hb49 hW))
    rw [hasV_code, beq_self_eq_true, Bool.true_or] at hhasb
    have hnn : ((n : Int) + 1 != (n : Int) + 1) = false := by simp
    have hnw : IntKind.i64.wrap ((n : Int) + 1) = (n : Int) + 1 := IntWalk.i64_in _ (by omega)
    generalize (wordL L).1 = x1 at *
    generalize (wordL L).2 = x2 at *
    go_wp2_with (first
      | (go_at_call 15; refine (htopb.out _ (Below.refl _ _)).mono ?_; rintro rA wA ⟨rfl, hbA⟩)
      | (go_at_call 21; refine (hhasb.out _ hbA).mono ?_; rintro rB wB ⟨rfl, hbB⟩))
    have hb9B := via hbA hbB
    have hb5B := via hb59 hb9B
    have hb3B := via hb39 hb9B
    have hrel0 := hid (show ChR wB n (.int .i64 0) wB from ⟨0, Nat.zero_le _, rfl, Below.refl _ _⟩)
    clear m0c hnn hnw
    go_loopw [20] (fun iv wr => ChR wB n iv wr) (fun iv _ => n - (intOf iv).toNat)
    case atStart => exact hrel0.out
    case round =>
      clear hrel0
      obtain ⟨k, hk, rfl, hbr⟩ := hrel
      have hb5r := via hb5B hbr
      have hb3r := via hb3B hbr
      by_cases hlt : k < n
      · have hlt2 : (k : Int) < (n : Int) := by omega
        obtain ⟨lb, lo, rfl, hll, hlc⟩ := Hl3.out wr hb3r k hlt
        obtain ⟨mb, mo, hme, hml, hmc⟩ := Hm5.out wr hb5r (k + 1) (by omega)
        obtain ⟨rfl, rfl⟩ : m0b = mb ∧ m0o = mo := by simpa using hme
        rw [List.getD_cons_succ] at hmc
        have hkw : IntKind.i64.wrap ((k : Int) + 1) = ((k + 1 : Nat) : Int) := by rw [IntWalk.i64_in _ (by omega)]; omega
        have hkl : ((k + 1 : Nat) : Int) < ((n + 1 : Nat) : Int) := by omega
        have hrel2 := hid fun W (hW : Below wr.heap.size wr W) => show ChR wB n (.int .i64 (k + 1 : Nat)) W from ⟨k + 1, by omega, rfl, via hbr hW⟩
        generalize cs.getD k 0 = y at *
        clear hme
        go_wp2_with fail
        go_region
        go_wp2_with fail
        go_roundw
        case rel => exact hrel2.out _ (below_drewN _ wr 1)
        case measure => simp [intOf] <;> omega
      · obtain rfl : k = n := by omega
        have hlt2 : ¬ (k : Int) < (k : Int) := by omega
        have hb4r := via hb49 (via hb9B hbr)
        have hb8r := via hb89 (via hb9B hbr)
        have hb2r := via hb3 hb3r
        have hb1r := via hb19 (via hb9B hbr)
        have Hro := rootL_code (code) L
        rw [← Hcs.out, ← Hn.out] at Hro
        have hrootb := hid fun W (hW : Below wr.heap.size wr W) => croot_any ((false, code) :: L) b4 W (HT4.out _ (via hb4r hW)) (by simp; omega)
        have hrootc := hid fun W (hW : Below wr.heap.size wr W) => croot_any ((true, word) :: (false, code) :: L) c8 W (HT8.out _ (via hb8r hW)) (by simp; omega)
        rw [rootL_eq ((true, word) :: (false, code) :: L) ((false, code) :: L) rfl] at hrootc
        rw [Hro] at hrootb hrootc
        have htopc := hid fun W (hW : Below wr.heap.size wr W) => ctop_any ((true, word) :: (false, code) :: L) c8 W (HT8.out _ (via hb8r hW)) (Hl.out W (via hb1r hW))
        rw [topL_word, topL_code] at htopc
        have hhasa := hid fun W (hW : Below wr.heap.size wr W) => chas_any 0 L av W (HT.out _ (via hb2r hW))
        rw [hHZ.out] at hhasa
        have hhasb0 := hid fun W (hW : Below wr.heap.size wr W) => chas_any 0 ((false, code) :: L) b4 W (HT4.out _ (via hb4r hW))
        rw [hasV_code, good_zero HG.out, Bool.or_false, show ((code : Int) == 0) = false from (by first | exact hcz | rfl)] at hhasb0
        by_cases hn0 : k = 0
        · subst hn0
          rw [if_pos rfl] at hrootb hrootc
          rw [show ((0 : Nat) == 0) = true from rfl] at hhasa
          clear Hro
          go_wp2_with fail
          ((refine (hrootb.out _ (Below.refl _ _)).mono ?_); rintro rP wP ⟨rfl, hbP⟩)
          go_wp2_with fail
          ((refine (htopc.out _ hbP).mono ?_); rintro rQ wQ ⟨rfl, hbQ⟩)
          have hbQ2 := via hbP hbQ
          go_wp2_with fail
          ((refine (hrootc.out _ hbQ2).mono ?_); rintro rR wR ⟨rfl, hbR⟩)
          have hbR2 := via hbQ2 hbR
          go_wp2_with fail
          ((refine (hhasa.out _ hbR2).mono ?_); rintro rS wS ⟨rfl, hbS⟩)
          have hbS2 := via hbR2 hbS
          go_wp2_with fail
          ((refine (hhasb0.out _ hbS2).mono ?_); rintro rU wU ⟨rfl, hbU⟩)
          go_wp2_with fail
          go_ret
          exact ⟨rfl, via hb1r (via hbS2 hbU)⟩
        · have hnp : (0 : Int) < (k : Int) := by omega
          have hnz : ((k : Int) == 0) = false := by rw [beq_eq_false_iff_ne]; omega
          rw [if_neg hn0] at hrootb hrootc
          rw [show (k == 0) = false from (by rw [beq_eq_false_iff_ne]; exact hn0)] at hhasa
          obtain ⟨lb, lo, rfl, hll, hlc⟩ := Hl3.out wr hb3r (k - 1) (by omega)
          have hkw : IntKind.i64.wrap ((k : Int) - 1) = ((k - 1 : Nat) : Int) := by rw [IntWalk.i64_in _ (by omega)]; omega
          have hkl : ((k - 1 : Nat) : Int) < (k : Int) := by omega
          generalize cs.getD (k - 1) 0 = y at *
          clear Hro
          go_wp2_with fail
          ((refine (hrootb.out _ (Below.refl _ _)).mono ?_); rintro rP wP ⟨rfl, hbP⟩)
          go_wp2_with fail
          ((refine (htopc.out _ hbP).mono ?_); rintro rQ wQ ⟨rfl, hbQ⟩)
          have hbQ2 := via hbP hbQ
          go_wp2_with fail
          ((refine (hrootc.out _ hbQ2).mono ?_); rintro rR wR ⟨rfl, hbR⟩)
          have hbR2 := via hbQ2 hbR
          go_wp2_with fail
          ((refine (hhasa.out _ hbR2).mono ?_); rintro rS wS ⟨rfl, hbS⟩)
          have hbS2 := via hbR2 hbS
          go_wp2_with fail
          ((refine (hhasb0.out _ hbS2).mono ?_); rintro rU wU ⟨rfl, hbU⟩)
          go_wp2_with fail
          go_ret
          exact ⟨rfl, via hb1r (via hbS2 hbU)⟩
theorem law_CauseChains (sv : Value) (l : List (Int × Bool × Bool)) (code word : Int) (w : World) (hl : LaidE w) (hrow : Row w 3 sv l.length (opsC l)) :
    Calls Tryd.prog 5 #[sv, .int .i64 code, .int .i64 word] w fun r w' => r = .returned (.bool true) ∧ Below w.heap.size w w' := chains_walk l sv code word w hl hrow
end SLCCh

end Go.Proofs.YtppdbadigecegaaDoor


/- CauseTexts: a text is put together from the texts of its parts. -/
import Derived.Test.YtppdbadigecegaaCAw
import Derived.Test.YtppdbadigecegaaCTxV
import Derived.Test.YtppdbadigecegaaCBuiltB
import Derived.Laws.Strings
import Derived.Laws.Closers25
set_option linter.unusedVariables false
set_option linter.unusedSimpArgs false
namespace Go.Proofs.Ytppdbadigecegaa
section SLCTxts
open Go.RowKit

set_option maxRecDepth 100000 in
set_option maxHeartbeats 8000000 in
theorem causetexts_walk (T : Nat → Int) (l : List (Int × Bool × Bool)) (sv : Value) (code word : Int) (w : World) (htab : TabW T w) (hrow : Row w 3 sv l.length (opsC l)) (hbn : ∀ q ∈ l, -9223372036854775808 ≤ q.1 ∧ q.1 ≤ 9223372036854775807):
    Calls Try.prog 3 #[sv, .int .i64 code, .int .i64 word] w fun r w' => r = .returned (.bool true) ∧ Below w.heap.size w w' := by
  have hbuilt := hid fun W (hW : Below w.heap.size w W) => built_anyB l sv W (hrow.below hW (Nat.le_refl _)) hbn
  unfold BuiltPB at hbuilt
  obtain ⟨sa, scap, rfl, -⟩ := hrow.open
  have Ht := hid fun W (hW : Below w.heap.size w W) => htab.below hW
  obtain ⟨A, d, hA, hA2, hAd, hd9⟩ := code_arith code
  obtain ⟨A', n, hA', hA2', hAn, hn10⟩ := word_arith word
  obtain ⟨dc, own, hE, hz1, hx1, hown, hos, hcz⟩ := code_facts d hd9
  obtain ⟨dn, hnum, hz2, hx2, hnb⟩ := word_facts T n hn10
  have HE := hid hE
  have Hnum := hid hnum
  have Hnb := hid hnb
  have Hcz := hid hcz
  have Hos := hid hos
  have HC := hid (And.intro hA (And.intro hA2 (And.intro hAd (And.intro hz1 (And.intro hx1 (And.intro hown hd9))))))
  have HW := hid (And.intro hA' (And.intro hA2' (And.intro hAn (And.intro hz2 (And.intro hx2 hn10)))))
  clear hA hA2 hAd hd9 hA' hA2' hAn hn10 hE hz1 hx1 hown hos hcz hnum hz2 hx2 hnb
  obtain ⟨sn, hsn⟩ : ∃ sn, sn = l.length := ⟨_, rfl⟩
  rw [← hsn] at hbuilt ⊢
  clear hrow hsn htab hbn
  go_enter Try.func3, Try.ntmps3
  go_wp2_with fail
  ((refine (awake01 _).mono ?_); rintro r1 w1 ⟨rfl, hb1⟩)
  go_wp2_with fail
  ((refine (hbuilt.out _ hb1).mono ?_); rintro r2 w2 ⟨av, bv, L, rfl, hTC, hL20, ⟨hG, hB⟩, hb2⟩)
  have hb12 := via hb1 hb2
  have HT := hid fun W (hW : Below w2.heap.size w2 W) => hTC.below hW
  have htx := hid fun W (hW : Below w2.heap.size w2 W) => ctext_any T L av W (Nat.le_trans hL20 (by decide)) (HT.out W hW) hB (Ht.out W (via hb12 hW))
  have hbec := hid fun W (hW : Below w2.heap.size w2 W) => cbecause_any (1 + (d : Int)) L av W (HT.out W hW)
  have hat := hid fun W (hW : Below w2.heap.size w2 W) => cat_any L av (n : Int) W (HT.out W hW)
  have htx2 := hid fun (M : List (Bool × Int)) (u : Value) W (hM : M.length ≤ 1000) (hu : TC W u M) (hBM : BndW M) (hW : Below w2.heap.size w2 W) => ctext_any T M u W hM hu hBM (Ht.out W (via hb12 hW))
  have hB1 := hid (hB.over (1 + (d : Int)))
  have hB2 := hid (hB.at_ (n : Int) Hnb.out)
  have hl1 := hid (show (overL (1 + (d : Int)) L).length ≤ 1000 from Nat.le_trans (overL_len _ L) (Nat.le_trans (Nat.succ_le_succ hL20) (by decide)))
  have hl2 := hid (show (atL L (n : Int)).length ≤ 1000 from Nat.le_trans (atL_len L _) (Nat.le_trans (Nat.succ_le_succ hL20) (by decide)))
  unfold TxtQ at htx htx2
  rw [overL, if_neg Hcz.out] at hbec hB1 hl1
  have hts := textL_size T L hB
  clear hbuilt
  by_cases hL : L = []
  · subst hL
    rw [show textL T [] = ⟨#[]⟩ from rfl] at htx hts
    have ht1 := hid (show textL T [(false, 1 + (d : Int))] = own from HE.out.symm)
    obtain rfl : av = .nilIface := hTC
    clear HT hG hB hts
    obtain ⟨hA, ⟨hA2, hA3⟩, hAd, hz1, hx1, hown, hd9⟩ := HC.out
    obtain ⟨hA', ⟨hA2', hA3'⟩, hAn, hz2, hx2, hn10⟩ := HW.out
    go_wp2_with fail
    ((with_reducible refine (htx.out _ (Below.refl _ _)).mono ?_); rintro r3 w3 ⟨rfl, hb3⟩)
    go_wp2_with fail
    ((with_reducible refine (hbec.out _ hb3).mono ?_); rintro r4 w4 ⟨v4, rfl, hT4, hb4⟩)
    have c4 := via hb3 hb4
    rcases hT4.shape with ⟨h0, -⟩ | ⟨-, T4, x4, rfl⟩
    · cases h0
    go_wp2_with fail
    (refine (htx2.out _ _ _ hl1.out hT4 hB1.out c4).mono ?_; rintro r5 w5 ⟨rfl, hb5⟩)
    rw [ht1.out]
    have c5 := via c4 hb5
    go_wp2_with fail
    ((with_reducible refine (hat.out _ c5).mono ?_); rintro r6 w6 ⟨v6, rfl, hT6, hb6⟩)
    have c6 := via c5 hb6
    obtain rfl : v6 = .nilIface := hT6
    go_wp2_with fail
    ((with_reducible refine (htx.out _ c6).mono ?_); rintro r7 w7 ⟨rfl, hb7⟩)
    have c7 := via c6 hb7
    go_wp2_with fail
    go_ret
    exact ⟨rfl, via hb12 c7⟩
  · have htp := textL_pos T L hL
    have ht1 := hid (show textL T ((false, 1 + (d : Int)) :: L) = own ++ sBecause ++ textL T L by rw [textL, if_neg (by decide), if_neg hL, HE.out])
    have ht2 := hid (show textL T (atL L (n : Int)) = sWord ++ dn ++ sColon ++ textL T L by rw [atL, if_neg hL, textL, if_pos rfl, Hnum.out])
    generalize textL T L = tx at *
    have hne : ¬ tx = ⟨#[]⟩ := fun e => by rw [e] at htp; exact absurd htp (by decide)
    have hne2 : tx.toList.isEmpty = false := by
      rw [← decide_eq_emptyBytes]
      exact decide_eq_false hne
    have hos := Hos.out
    have k1 : ¬ 9223372036854775807 < own.size + 9 := by omega
    have k2 : ¬ 9223372036854775807 < own.size + 9 + tx.size := by omega
    have k3 : ¬ 9223372036854775807 < 8 + tx.size := by omega
    clear hos
    unfold sBecause at ht1
    unfold sWord sColon at ht2
    obtain ⟨T9, x9, rfl⟩ := hTC.iface hL
    clear HT hG hB hTC hts htp
    obtain ⟨hA, ⟨hA2, hA3⟩, hAd, hz1, hx1, hown, hd9⟩ := HC.out
    obtain ⟨hA', ⟨hA2', hA3'⟩, hAn, hz2, hx2, hn10⟩ := HW.out
    go_wp2_with fail
    ((with_reducible refine (htx.out _ (Below.refl _ _)).mono ?_); rintro r3 w3 ⟨rfl, hb3⟩)
    go_wp2_with fail
    ((with_reducible refine (hbec.out _ hb3).mono ?_); rintro r4 w4 ⟨v4, rfl, hT4, hb4⟩)
    have c4 := via hb3 hb4
    obtain ⟨T4, x4, rfl⟩ := hT4.iface (by simp)
    go_wp2_with fail
    (refine (htx2.out _ _ _ hl1.out hT4 hB1.out c4).mono ?_; rintro r5 w5 ⟨rfl, hb5⟩)
    rw [ht1.out]
    have c5 := via c4 hb5
    go_wp2_with fail
    ((with_reducible refine (hat.out _ c5).mono ?_); rintro r6 w6 ⟨v6, rfl, hT6, hb6⟩)
    have c6 := via c5 hb6
    obtain ⟨T6, x6, rfl⟩ := hT6.iface (by rw [atL, if_neg hL]; simp)
    go_wp2_with fail
    (refine (htx2.out _ _ _ hl2.out hT6 hB2.out c6).mono ?_; rintro r7 w7 ⟨rfl, hb7⟩)
    rw [ht2.out]
    have c7 := via c6 hb7
    go_wp2_with fail
    go_ret
    exact ⟨rfl, via hb12 c7⟩
theorem law_CauseTexts (sv : Value) (l : List (Int × Bool × Bool)) (code word : Int) (w : World) (ht : ∃ T, TabW T w) (hrow : Row w 3 sv l.length (opsC l)) (hbn : ∀ q ∈ l, -9223372036854775808 ≤ q.1 ∧ q.1 ≤ 9223372036854775807) :
    Calls Try.prog 3 #[sv, .int .i64 code, .int .i64 word] w fun r w' => r = .returned (.bool true) ∧ Below w.heap.size w w' := by
  obtain ⟨T, hT⟩ := ht
  exact causetexts_walk T l sv code word w hT hrow hbn
end SLCTxts

end Go.Proofs.Ytppdbadigecegaa


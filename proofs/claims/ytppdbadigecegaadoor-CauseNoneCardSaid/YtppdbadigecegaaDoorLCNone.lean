/- CauseNone: nothing stays nothing; a code that is OK over a trouble is that trouble. -/
import Derived.Test.YtppdbadigecegaaDoorCAw
import Derived.Test.YtppdbadigecegaaDoorCTop
import Derived.Test.YtppdbadigecegaaDoorCRoot
import Derived.Test.YtppdbadigecegaaDoorCHas
import Derived.Test.YtppdbadigecegaaDoorCText
import Derived.Test.YtppdbadigecegaaDoorCBuiltB
set_option linter.unusedVariables false
set_option linter.unusedSimpArgs false
namespace Go.Proofs.YtppdbadigecegaaDoor
section SLCNone
open Go.RowKit

theorem new_ok (w : World) : Calls Tryd.prog 23 #[.int .i64 0] w fun r w' => r = .returned .nilIface ∧ w' = w := new_errV 0 w
theorem because_ok_nil (w : World) : Calls Tryd.prog 24 #[.int .i64 0, .nilIface] w fun r w' => r = .returned .nilIface ∧ w' = w := because_nil 0 w
/-- A code that is OK over a trouble hands it back. -/
theorem because_ok_any (L : List (Bool × Int)) (v : Value) (w : World) (h : TC w v L) : Calls Tryd.prog 24 #[.int .i64 0, v] w fun r w' => r = .returned v ∧ w' = w := by
  rcases h.shape with ⟨rfl, rfl⟩ | ⟨hL, T, x, rfl⟩
  · exact because_ok_nil w
  · exact because_ok T x w
/-- The codes of a trouble: a slice. -/
theorem ccodes_len (L : List (Bool × Int)) (v : Value) (w : World) (h : TC w v L) (hlen : L.length ≤ 1000) : Calls Tryd.prog 9 #[v] w fun r w' => ∃ a cap, r = .returned (.slice a (codesL L).length cap) ∧ Below w.heap.size w w' := by
  refine (ccodes_any L v w h hlen).mono ?_
  rintro r w' ⟨rv, rfl, hrow, hb⟩
  obtain ⟨a, cap, rfl, -⟩ := hrow.open
  exact ⟨a, cap, rfl, hb⟩

set_option maxRecDepth 100000 in
set_option maxHeartbeats 8000000 in
theorem causenone_walk (T : Nat → Int) (l : List (Int × Bool × Bool)) (sv : Value) (word : Int) (w : World) (hl : LaidE w) (htab : TabW T w) (hrow : Row w 3 sv l.length (opsC l)) (hbn : ∀ q ∈ l, -9223372036854775808 ≤ q.1 ∧ q.1 ≤ 9223372036854775807) :
    Calls Tryd.prog 6 #[sv, .int .i64 word] w fun r w' => r = .returned (.bool true) ∧ Below w.heap.size w w' := by
  have hbuilt := hid fun W (hW : Below w.heap.size w W) => built_anyB l sv W (hrow.below hW (Nat.le_refl _)) hbn
  unfold BuiltPB at hbuilt
  obtain ⟨sa, scap, rfl, -⟩ := hrow.open
  have Ht := hid fun W (hW : Below w.heap.size w W) => htab.below hW
  have hnw := new_ok
  have hbc := because_ok_nil
  have hat := at_nil word
  have hwd := hid fun W => cword_L [] .nilIface W rfl
  rw [show (wordL []).1 = 0 from rfl, show (wordL []).2 = false from rfl] at hwd
  have hcd := hid fun W => ccodes_len [] .nilIface W rfl (by decide)
  rw [show (codesL []).length = 0 from rfl] at hcd
  have htp := top_nil
  have hrt := hid fun W => croot_any [] .nilIface W rfl (by decide)
  rw [show rootL [] = 0 from rfl] at hrt
  have htx := hid fun W (hW : Below w.heap.size w W) => ctext_any T [] .nilIface W (by decide) rfl (fun x hx => by cases hx) (Ht.out W hW)
  rw [show textL T [] = ⟨#[]⟩ from rfl] at htx
  have hh0 := hid fun W => chas_any 0 [] .nilIface W rfl
  have hh1 := hid fun W => chas_any 1 [] .nilIface W rfl
  rw [show hasV [] 0 = true from rfl] at hh0
  rw [show hasV [] 1 = false from rfl] at hh1
  obtain ⟨sn, hsn⟩ : ∃ sn, sn = l.length := ⟨_, rfl⟩
  rw [← hsn] at hbuilt ⊢
  clear hrow hl hsn htab hbn
  unfold TxtQ at htx
  go_enter Tryd.func6, Tryd.ntmps6
  go_wp2_with fail
  ((refine (awake01 _).mono ?_); rintro r1 w1 ⟨rfl, hb1⟩)
  go_wp2_with fail
  ((refine (hbuilt.out _ hb1).mono ?_); rintro r2 w2 ⟨av, bv, L, rfl, hTC, hL20, ⟨hG, hB⟩, hb2⟩)
  have hb12 := via hb1 hb2
  have HT := hid fun W (hW : Below w2.heap.size w2 W) => hTC.below hW
  have hok := hid fun W (hW : Below w2.heap.size w2 W) => because_ok_any L av W (HT.out W hW)
  have htxa := hid fun W (hW : Below w2.heap.size w2 W) => ctext_any T L av W (by omega) (HT.out W hW) hB (Ht.out W (via hb12 hW))
  have hcda := hid fun W (hW : Below w2.heap.size w2 W) => ccodes_len L av W (HT.out W hW) (by omega)
  unfold TxtQ at htxa
  have hcl : (codesL L).length ≤ 20 := Nat.le_trans (codesL_le L) hL20
  generalize textL T L = tx at *
  generalize (codesL L).length = cl at *
  have hr2 := Below.refl w2.heap.size w2
  rcases hTC.shape with ⟨rfl, rfl⟩ | ⟨hL, T9, x9, rfl⟩
  all_goals
    clear hbuilt HT hTC
    go_wp2_with (first
      | (go_at_call 23; (with_reducible refine (hnw _).mono ?_); rintro r3 w3 ⟨rfl, rfl⟩)
      | (go_at_call 24; (with_reducible refine (hbc _).mono ?_); rintro r3 w3 ⟨rfl, rfl⟩)
      | (go_at_call 25; (with_reducible refine (hat _).mono ?_); rintro r3 w3 ⟨rfl, rfl⟩))
    ((with_reducible refine (hwd.out _).mono ?_); rintro rr0 ww0 ⟨rfl, hb4⟩)
    have c4 := via hr2 hb4
    go_wp2_with fail
    ((with_reducible refine (hok.out _ c4).mono ?_); rintro rr1 ww1 ⟨rfl, rfl⟩)
    go_wp2_with fail
    ((with_reducible refine (hcd.out _).mono ?_); rintro rr2 ww2 ⟨a5, cap5, rfl, hb5⟩)
    have c5 := via c4 hb5
    go_wp2_with fail
    ((with_reducible refine (htp _).mono ?_); rintro rr3 ww3 ⟨rfl, hb6⟩)
    have c6 := via c5 hb6
    go_wp2_with fail
    ((with_reducible refine (hrt.out _).mono ?_); rintro rr4 ww4 ⟨rfl, hb7⟩)
    have c7 := via c6 hb7
    go_wp2_with fail
    ((with_reducible refine (htx.out _ (via hb12 c7)).mono ?_); rintro rr5 ww5 ⟨rfl, hb8⟩)
    have c8 := via c7 hb8
    go_wp2_with fail
    ((with_reducible refine (hh0.out _).mono ?_); rintro rr6 ww6 ⟨rfl, hb9⟩)
    have c9 := via c8 hb9
    go_wp2_with fail
    ((with_reducible refine (hh1.out _).mono ?_); rintro rr7 ww7 ⟨rfl, hb10⟩)
    have c10 := via c9 hb10
    go_wp2_with fail
    ((with_reducible refine (htxa.out _ c10).mono ?_); rintro rr8 ww8 ⟨rfl, hb11⟩)
    have c11 := via c10 hb11
    go_wp2_with fail
    ((with_reducible refine (htxa.out _ c11).mono ?_); rintro rr9 ww9 ⟨rfl, hb12a⟩)
    have c12 := via c11 hb12a
    go_wp2_with fail
    ((with_reducible refine (hcda.out _ c12).mono ?_); rintro rr10 ww10 ⟨a13, cap13, rfl, hb13⟩)
    have c13 := via c12 hb13
    go_wp2_with fail
    ((with_reducible refine (hcda.out _ c13).mono ?_); rintro rr11 ww11 ⟨a14, cap14, rfl, hb14⟩)
    have c14 := via c13 hb14
    go_wp2_with fail
    go_ret
    exact ⟨rfl, via hb12 c14⟩
theorem law_CauseNone (sv : Value) (l : List (Int × Bool × Bool)) (word : Int) (w : World) (hl : LaidE w) (ht : ∃ T, TabW T w) (hrow : Row w 3 sv l.length (opsC l)) (hbn : ∀ q ∈ l, -9223372036854775808 ≤ q.1 ∧ q.1 ≤ 9223372036854775807) :
    Calls Tryd.prog 6 #[sv, .int .i64 word] w fun r w' => r = .returned (.bool true) ∧ Below w.heap.size w w' := by
  obtain ⟨T, hT⟩ := ht
  exact causenone_walk T l sv word w hl hT hrow hbn
end SLCNone

end Go.Proofs.YtppdbadigecegaaDoor


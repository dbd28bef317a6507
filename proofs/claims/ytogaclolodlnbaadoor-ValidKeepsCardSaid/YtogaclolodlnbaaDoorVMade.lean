/- A message by numbers, as layer 8's laws make it; chapter 7's example is looked at. -/
import Derived.Test.YtogaclolodlnbaaDoorGi
import Derived.Test.YtogaclolodlnbaaDoorAw7
import Derived.Test.YtogaclolodlnbaaDoorAs2
set_option linter.unusedVariables false
set_option linter.unusedSimpArgs false
namespace Go.Proofs.YtogaclolodlnbaaDoor
section SVMade
open Go.RowKit

/-- A message that was built, or none. -/
def MsgP (s : Schema) (ws : List (BitVec 64)) : Prop := ws = [] ∨ ∃ (d t : Nat) (X : St (d + 1)), t < s.length ∧ codeT s (d + 1) 5 t X = 0 ∧ ws = buildW s d t X ∧ ws.length ≤ 200
def Spec8P (w : World) (e : Ending) (w' : World) : Prop :=
  ∃ sv wv s ws, e = .returned (.tuple #[sv, wv]) ∧ Below w.heap.size w w' ∧ Sch w' sv s ∧ rightB s = true ∧ Row w' 1 wv ws.length (ws.map U) ∧ MsgP s ws
theorem msg_of {s : Schema} {d t : Nat} {X : St (d + 1)} (hr : rightB s = true) (ht : t < s.length) (hf : FitT s (d + 1) t X) (hd : d + 1 ≤ 5) : MsgP s (buildL s d t X) := by
  have hcode := fit_code s (d + 1) 5 t X hf hd
  have hC0 : checkC s (d + 1) t X = 0 := by rw [checkC, if_pos ⟨hr, by omega, by omega⟩]; exact hcode
  unfold buildL
  by_cases hE : buildE s d t X = 0
  · rw [if_pos hE]
    refine .inr ⟨d, t, X, ht, hcode, rfl, ?_⟩
    rw [(build_lie hcode).1]
    rw [buildE, if_pos hC0] at hE
    split at hE
    · next h => exact h
    · cases hE
  · rw [if_neg hE]; exact .inl rfl

set_option maxRecDepth 100000 in
set_option maxHeartbeats 8000000 in
theorem spec8_any (D E : Nat) (hD : D + 1 ≤ 5) (hE : E = D + 1) (u v : Value) (T : Int) (tl vl : List Int) (w : World) (hu : Row w 1 u tl.length (tl.map (Value.int .i64))) (hv : Row w 1 v vl.length (vl.map (Value.int .i64)))
    (hub : ∀ z ∈ tl, -9223372036854775808 ≤ z ∧ z ≤ 9223372036854775807) (hvb : ∀ z ∈ vl, -9223372036854775808 ≤ z ∧ z ≤ 9223372036854775807) (hT : -9223372036854775808 ≤ T ∧ T ≤ 9223372036854775807) :
    Calls Tryd.prog 17 #[.agg #[u, v, .int .i64 T], .int .i64 E] w (Spec8P w) := by
  obtain ⟨au, cu, rfl, _⟩ := hu.open
  obtain ⟨av, cv, rfl, hcv, _, hvc⟩ := hv.open
  obtain ⟨w2, hw1, hb12, hlt2, hbox1⟩ := boxed w #[.slice au tl.length cu, .slice av vl.length cv, .int .i64 T] 24
  have q0 : w2.cell? ⟨w.heap.size, 0, none⟩ = some (.slice au tl.length cu) := hbox1 0
  have q1 : w2.cell? ⟨w.heap.size, 1, none⟩ = some (.slice av vl.length cv) := hbox1 1
  have q2 : w2.cell? ⟨w.heap.size, 2, none⟩ = some (.int .i64 T) := hbox1 2
  have hmade := hid (made_any tl (.slice au tl.length cu) w2 (hu.below hb12 (Nat.le_refl _)) hub)
  obtain ⟨hSr, hS1, hS4, _⟩ := madeS_ok tl
  obtain ⟨n, hn⟩ : ∃ n, n = (madeS tl).length := ⟨_, rfl⟩
  have Hn := hid hn
  rw [← hn] at hS1 hS4
  have Hv := hid hv
  have Hvb := hid hvb
  have Hvc := hid hvc
  have HE := hid hE
  have HSr := hid hSr
  have hvm := hv.most
  unfold maxLen at hvm
  obtain ⟨m, hm⟩ : ∃ m, m = vl.length := ⟨_, rfl⟩
  have Hm := hid hm
  clear hu hv hub hvb hbox1 hn hvc hE hSr
  rw [← hm] at hw1 q1 hcv hvm ⊢
  clear hm
  go_enter Tryd.func17, Tryd.ntmps17
  go_wp2_with fail
  ((refine hmade.out.mono ?_); rintro r3 w3 ⟨sv, rfl, hb3, hown⟩)
  have hsch := hown.sch
  obtain ⟨sa, scap, rfl, _, _, hsm⟩ := hsch.shape
  rw [← Hn.out] at hsm hsch hown ⊢
  have Hs := hid hsch
  clear hmade hown hw1 hsch
  generalize madeS tl = S at *
  replace q0 := (hb3.cell hlt2).trans q0
  replace q1 := (hb3.cell hlt2).trans q1
  replace q2 := (hb3.cell hlt2).trans q2
  have hB3 := via hb12 hb3
  have hn1 : (1 : Int) ≤ (n : Int) := by omega
  have hnz : ((n : Int) == 0) = false := by rw [beq_eq_false_iff_ne]; omega
  have t1 := Int.tmod_lt_of_pos T (show (0 : Int) < n by omega)
  have t2 := Int.lt_tmod_of_pos T (show (0 : Int) < n by omega)
  obtain ⟨x, hx⟩ : ∃ x, Int.tmod T (n : Int) = x := ⟨_, rfl⟩
  rw [hx] at t1 t2
  have e0 := Int.emod_nonneg (x + (n : Int)) (show (n : Int) ≠ 0 by omega)
  have e1 := Int.emod_lt_of_pos (x + (n : Int)) (show (0 : Int) < n by omega)
  obtain ⟨t, ht⟩ : ∃ t : Nat, (x + (n : Int)) % (n : Int) = (t : Int) := ⟨((x + (n : Int)) % (n : Int)).toNat, by omega⟩
  have ht' : x % (n : Int) = (t : Int) := by rw [← ht]; simp
  have htn : t < n := by omega
  clear e0 e1
  have Hcall := hid fun (lv : Value) (ls : List Int) (h1 : Row w3 1 lv ls.length (ls.map (Value.int .i64))) (h2 : ∀ z ∈ ls, -9223372036854775808 ≤ z ∧ z ≤ 9223372036854775807) => madeM_any S HSr.out (.slice sa n scap) D E (by omega) HE.out t (by rw [← Hn.out]; exact htn) lv ls w3 Hs.out h1 h2
  have Hbuild := hid fun (X : St (D + 1)) (cs : List Value) (W : World) (hW : Below w3.heap.size w3 W) (hrd : RdS (D + 1) W cs X) => rbuild_any S (.slice sa n scap) D (t : Int) X cs W (Hs.out.below hW (Nat.le_refl _)) hrd
  have Hmsg := hid fun (X : St (D + 1)) (hf : FitT S (D + 1) t X) => msg_of HSr.out (by rw [← Hn.out]; exact htn) hf hD
  by_cases hm60 : 60 < m
  · have hm60' : (60 : Int) < (m : Int) := by omega
    have hcv60 : (60 : Int) ≤ (cv : Int) := by omega
    have hc := hid (Hcall.out (.slice av 60 cv) (vl.take 60) (row_cut (n := m) (by have h := Hv.out.below hB3 (Nat.le_refl _); rw [← Hm.out] at h ⊢; exact h) Hm.out (by omega)) (fun z hz => Hvb.out z (List.mem_of_mem_take hz)))
    go_wp2_with fail
    ((refine hc.out.mono ?_); rintro r4 w4 ⟨x0, x1, x2, x3, X, rfl, hb4, hrd, hft⟩)
    have hbd := hid (Hbuild.out X [x0, x1, x2, x3] w4 hb4 hrd.now)
    clear hrd
    go_wp2_with fail
    ((refine hbd.out.mono ?_); rintro r5 w5 ⟨wv, rfl, hrow, hb5⟩)
    go_wp2_with fail
    go_returns
    exact ⟨_, _, S, _, by first | rfl | rw [ht] | rw [ht'], hB3.trans ((via hb4 hb5).mono hB3.size), Hs.out.below (via hb4 hb5) (Nat.le_refl _), HSr.out, hrow, Hmsg.out X hft⟩
  · have hm60' : (m : Int) ≤ 60 := by omega
    have hc := hid (Hcall.out (.slice av m cv) vl (by have h := Hv.out.below hB3 (Nat.le_refl _); rw [← Hm.out] at h ⊢; exact h) (fun z hz => Hvb.out z hz))
    go_wp2_with fail
    ((refine hc.out.mono ?_); rintro r4 w4 ⟨x0, x1, x2, x3, X, rfl, hb4, hrd, hft⟩)
    have hbd := hid (Hbuild.out X [x0, x1, x2, x3] w4 hb4 hrd.now)
    clear hrd
    go_wp2_with fail
    ((refine hbd.out.mono ?_); rintro r5 w5 ⟨wv, rfl, hrow, hb5⟩)
    go_wp2_with fail
    go_returns
    exact ⟨_, _, S, _, by first | rfl | rw [ht] | rw [ht'], hB3.trans ((via hb4 hb5).mono hB3.size), Hs.out.below (via hb4 hb5) (Nat.le_refl _), HSr.out, hrow, Hmsg.out X hft⟩
end SVMade

end Go.Proofs.YtogaclolodlnbaaDoor


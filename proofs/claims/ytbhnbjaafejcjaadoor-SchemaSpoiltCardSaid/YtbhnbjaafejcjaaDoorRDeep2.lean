/- The document's Deep, whole; few. -/
import Derived.Test.YtbhnbjaafejcjaaDoorRDeep
set_option linter.unusedVariables false
namespace Go.Proofs.YtbhnbjaafejcjaaDoor
open Go.RowKit

set_option maxHeartbeats 2000000 in
theorem rdeep_any (s : Schema) (v : Value) (t : Int) (w : World) (hs : Sch w v s) :
    Calls Tryd.prog 55 #[v, .int .i64 t] w fun r w' => r = .returned (.int .i64 (deepV s t)) ∧ Below w.heap.size w w' := by
  have hright := rright_any s v w hs
  by_cases hr : rightB s = true
  · by_cases h0 : 0 ≤ t
    · by_cases h1 : t < s.length
      · obtain ⟨k, rfl⟩ : ∃ k : Nat, t = k := ⟨t.toNat, by omega⟩
        have e : deepV s k = deepR s 6 k := by rw [deepV, if_pos ⟨hr, h0, h1⟩, deepL_eq s 5]
        rw [e]
        exact rdeep_yes s v k w hs hr (by omega)
      · have hv : deepV s t = 0 := by rw [deepV, if_neg (fun h => h1 h.2.2)]
        rw [hv]
        rw [hr] at hright
        obtain ⟨a, cap, rfl, _⟩ := hs.shape
        obtain ⟨n, hn⟩ : ∃ n, n = s.length := ⟨_, rfl⟩
        rw [← hn] at hright h1 ⊢
        have hd0 : decide (t < 0) = false := decide_eq_false (by omega)
        have hd1 : decide ((n : Int) ≤ t) = true := decide_eq_true (by omega)
        clear hn hs hr h0 h1 hv
        go_enter Tryd.func55, Tryd.ntmps55
        go_wp2_with (go_at_call 47; refine hright.mono ?_; rintro r1 w2 ⟨rfl, hb2⟩)
        go_ret
        exact ⟨rfl, hb2⟩
    · have hv : deepV s t = 0 := by rw [deepV, if_neg (fun h => h0 h.2.1)]
      rw [hv]
      rw [hr] at hright
      have hd0 : decide (t < 0) = true := decide_eq_true (by omega)
      clear hs hr h0 hv
      go_enter Tryd.func55, Tryd.ntmps55
      go_wp2_with (go_at_call 47; refine hright.mono ?_; rintro r1 w2 ⟨rfl, hb2⟩)
      go_ret
      exact ⟨rfl, hb2⟩
  · have hv : deepV s t = 0 := by rw [deepV, if_neg (fun h => hr h.1)]
    rw [hv]
    rw [show rightB s = false by simpa using hr] at hright
    clear hs hr hv
    go_enter Tryd.func55, Tryd.ntmps55
    go_wp2_with (go_at_call 47; refine hright.mono ?_; rintro r1 w2 ⟨rfl, hb2⟩)
    go_ret
    exact ⟨rfl, hb2⟩

def fewS (s : Schema) : Schema := (s.take 9).map (·.take 7)

theorem fldsC_take (l : Fields) (k : Nat) : (fldsC l).take (k * 2) = fldsC (l.take k) := by
  induction l generalizing k with
  | nil => simp [fldsC]
  | cons p l ih =>
    cases k with
    | zero => simp [fldsC]
    | succ k => rw [show (k + 1) * 2 = k * 2 + 1 + 1 by omega]; simp [fldsC, ih]
theorem Flds.cut {w : World} {a : Option Addr} {n cap : Nat} {l : Fields} (h : Flds w (.slice a n cap) l) (hn : n = l.length) (k : Nat) (hk : k ≤ n) : Flds w (.slice a k cap) (l.take k) := by
  have h1 := Row.cut (n := n) (by unfold Flds at h; rw [← hn] at h; exact h) k hk
  rw [fldsC_take] at h1
  unfold Flds
  rw [List.length_take, Nat.min_eq_left (by omega)]
  exact h1

set_option maxRecDepth 100000 in
set_option maxHeartbeats 4000000 in
theorem few_any (s : Schema) (v : Value) (w : World) (hs : Sch w v s) :
    Calls Tryd.prog 23 #[v] w fun r w' => ∃ u, r = .returned u ∧ Below w.heap.size w w' ∧ Sch w' u (fewS s) := by
  obtain ⟨iS, hiS, hzS, hsS, hbS⟩ := info_parts infoFs
  obtain ⟨a, cap, rfl, hnc, hcm, hmost⟩ := hs.shape
  obtain ⟨n, hn⟩ : ∃ n, n = s.length := ⟨_, rfl⟩
  rw [← hn] at hs hnc hmost ⊢
  have Hn := hid hn
  clear hn
  go_enter Tryd.func23, Tryd.ntmps23
  go_wp2_with fail
  go_loopw [3, 4] (fun sv i wr => ∃ (k : Nat) (vs : List Value), k ≤ n ∧ k ≤ 9 ∧ i = .int .i64 k ∧ Below w.heap.size w wr ∧ wr.ownsRow w.heap.size 28 1 sv k vs ∧ ∀ (j : Nat) (l : Fields), (s.take k)[j]? = some l → ∃ u, vs[j]? = some u ∧ Flds w u (l.take 7)) (fun _ i _ => 9 - (intOf i).toNat)
  case atStart => exact ⟨0, [], Nat.zero_le _, Nat.zero_le _, rfl, Below.refl _ _, own_nil _ _ _ _, fun j l h => by simp at h⟩
  case round =>
    obtain ⟨k, vs, hkn, hk9, rfl, hbl, hown, hvs⟩ := hrel
    have Hvs := hid hvs
    clear hvs
    by_cases hlt : k < n ∧ k < 9
    · obtain ⟨hlt, hlt9⟩ := hlt
      obtain ⟨l, hl⟩ := get_lt (l := s) (i := k) (by rw [← Hn.out]; exact hlt)
      obtain ⟨b, off, a2, cap2, rfl, hbb, hc0, hf0, hlm, hlc, hcm2⟩ := hs.at_ hl
      have hc := (hbl.cell (p := ⟨b, off + k, none⟩) hbb).trans hc0
      obtain ⟨m, hm⟩ : ∃ m, m = l.length := ⟨_, rfl⟩
      rw [← hm] at hc hf0 hlm hlc
      obtain ⟨x, hx, hxf⟩ : ∃ x, (if 7 < m then 7 else m) = x ∧ Flds w (.slice a2 x cap2) (l.take 7) := by
        by_cases h7 : 7 < m
        · exact ⟨7, if_pos h7, hf0.cut hm 7 (by omega)⟩
        · refine ⟨m, if_neg h7, ?_⟩
          rw [List.take_of_length_le (by omega)]; exact hf0
      have Hxf := hid hxf
      have Hl := hid hl
      obtain ⟨a5, c5, rfl⟩ := own_shape hown
      unfold maxLen at hlm
      have hk9d : decide (k < 9) = true := decide_eq_true hlt9
      have hk9e : decide ((k : Int) < 9) = true := decide_eq_true (by omega)
      have hb7 := below_alloc wr (.cells #[.slice a2 x cap2] 28)
      have ho7 := own_beneath hown hb7
      have hbl7 := hbl.trans (hb7.mono hbl.size)
      have Hvl := hid (show vs.length = k by have := hown.1; simpa using this)
      have Hrel := hid (show ∀ (j : Nat) (l' : Fields), (s.take (k + 1))[j]? = some l' → ∃ u, (vs ++ [.slice a2 x cap2])[j]? = some u ∧ Flds w u (l'.take 7) from fun j l' hl' => by
        by_cases hj : j < k
        · rw [List.getElem?_take, if_pos (by omega)] at hl'
          obtain ⟨u, hu, h⟩ := Hvs.out j l' (by rw [List.getElem?_take, if_pos hj]; exact hl')
          exact ⟨u, by rw [List.getElem?_append_left (by rw [Hvl.out]; exact hj)]; exact hu, h⟩
        · have hjk : j = k := by
            have := (List.getElem?_eq_some_iff.1 hl').1
            simp at this; omega
          subst hjk
          rw [List.getElem?_take, if_pos (by omega), Hl.out] at hl'
          obtain rfl := Option.some.inj hl'
          refine ⟨_, by rw [← Hvl.out, List.getElem?_append_right (Nat.le_refl _)]; simp, Hxf.out⟩)
      clear hown hbl hb7 hl hf0 hxf hc0
      by_cases h7 : 7 < m
      · obtain rfl : x = 7 := by rw [← hx, if_pos h7]
        have e1 : (7 : Int) < (m : Int) := by omega
        have e2 : decide ((7 : Int) < (m : Int)) = true := decide_eq_true e1
        have e3 : (7 : Int) ≤ (cap2 : Int) := by omega
        have e4 : decide (7 < m) = true := decide_eq_true h7
        clear hx hm
        go_wp2_with (at_builtin; go_must (refine wpList_append_own _ rfl (.tmp 25) (.tmp 27) 26 rfl w.heap.size 28 iS _ 1 24 Tryd.underlying26 hiS hzS hsS hbS rfl (by omega) _ k _ rfl ho7 ⟨wr.heap.size, 0, none⟩ 1 1 [.slice a2 7 cap2] rfl rfl (news_at _ _ rfl #[.slice a2 7 cap2] 28) (by simp [Value.oneCell']) (by unfold maxLen; omega) (by omega) hbl7.size ?_); intro v6 w6 ho8 hg8 _)
        have hb8 := below_own hbl7 ho7 (Nat.le_refl _) hg8 hbl7.size
        clear ho7 hg8
        go_roundw
        case rel => exact ⟨k + 1, _, by omega, by omega, by go_num, hb8, ho8, Hrel.out⟩
        case measure => simp [intOf] <;> omega
      · obtain rfl : x = m := by rw [← hx, if_neg h7]
        have e1 : ¬ ((7 : Int) < (x : Int)) := by omega
        have e2 : decide ((7 : Int) < (x : Int)) = false := decide_eq_false e1
        have e4 : decide (7 < x) = false := decide_eq_false h7
        clear hx hm
        go_wp2_with (at_builtin; go_must (refine wpList_append_own _ rfl (.tmp 25) (.tmp 27) 26 rfl w.heap.size 28 iS _ 1 24 Tryd.underlying26 hiS hzS hsS hbS rfl (by omega) _ k _ rfl ho7 ⟨wr.heap.size, 0, none⟩ 1 1 [.slice a2 x cap2] rfl rfl (news_at _ _ rfl #[.slice a2 x cap2] 28) (by simp [Value.oneCell']) (by unfold maxLen; omega) (by omega) hbl7.size ?_); intro v6 w6 ho8 hg8 _)
        have hb8 := below_own hbl7 ho7 (Nat.le_refl _) hg8 hbl7.size
        clear ho7 hg8
        go_roundw
        case rel => exact ⟨k + 1, _, by omega, by omega, by go_num, hb8, ho8, Hrel.out⟩
        case measure => simp [intOf] <;> omega
    · have hke : s.take k = s.take 9 := by
        by_cases hkn' : k = n
        · rw [List.take_of_length_le (by rw [← Hn.out]; omega), List.take_of_length_le (by rw [← Hn.out]; omega)]
        · obtain rfl : k = 9 := by omega
          rfl
      have Hend := hid (show ∀ wx, Below w.heap.size w wx → wx.ownsRow w.heap.size 28 1 u3 k vs → Sch wx u3 (fewS s) from fun wx hb ho => by
        have hlen : (fewS s).length = k := by
          rw [fewS, List.length_map, ← hke, List.length_take, ← Hn.out]; omega
        refine ⟨vs, by rw [hlen]; exact Row.of_owns ho, fun j l hl => ?_⟩
        rw [fewS, List.getElem?_map] at hl
        cases hq : (s.take 9)[j]? with
        | none => rw [hq] at hl; simp at hl
        | some l' =>
          rw [hq] at hl
          obtain rfl := Option.some.inj hl
          obtain ⟨u, hu, h⟩ := Hvs.out j l' (by rw [hke]; exact hq)
          exact ⟨u, hu, h.below hb (Nat.le_refl _)⟩)
      have hd : (decide (k < n) && decide (k < 9)) = false := by
        cases h : (decide (k < n) && decide (k < 9))
        · rfl
        · rw [Bool.and_eq_true, decide_eq_true_iff, decide_eq_true_iff] at h; exact absurd h hlt
      by_cases hkn' : k < n
      · have d1 : decide (k < n) = true := decide_eq_true hkn'
        have d2 : decide (k < 9) = false := decide_eq_false (fun h => hlt ⟨hkn', h⟩)
        have d3 : decide ((k : Int) < 9) = false := decide_eq_false (fun h => hlt ⟨hkn', by omega⟩)
        clear hd hlt hke
        go_wp2_with fail
        go_ret
        exact ⟨_, rfl, hbl, Hend.out _ hbl hown⟩
      · have d1 : decide (k < n) = false := decide_eq_false hkn'
        clear hd hlt hke
        go_wp2_with fail
        go_ret
        exact ⟨_, rfl, hbl, Hend.out _ hbl hown⟩
end Go.Proofs.YtbhnbjaafejcjaaDoor


/- schema.Deep. -/
import Derived.Test.YtbhnbjaafejcjaaDoorRight
import Derived.Test.YtbhnbjaafejcjaaDoorDeepV
import Derived.Test.YtbhnbjaafejcjaaDoorPackV
import Derived.IntWalk
import Derived.Handy
import Derived.Laws.EntriesVeiled
set_option linter.unusedVariables false
namespace Go.Proofs.YtbhnbjaafejcjaaDoor
open Go.RowKit

theorem right_field {s : Schema} (h : rightB s = true) {k : Nat} {l : Fields} (hl : s[k]? = some l) {p : Int × Int} (hp : p ∈ l) : 1 ≤ p.1 ∧ p.1 ≤ 5 ∧ 0 ≤ p.2 ∧ p.2 < s.length := by
  unfold rightB at h
  rw [Bool.and_eq_true, List.all_eq_true] at h
  have h3 := h.2 l (List.mem_of_getElem? hl)
  unfold lOk at h3
  rw [Bool.and_eq_true, List.all_eq_true] at h3
  have h6 := of_decide_eq_true (h3.2 p hp)
  exact ⟨h6.1, h6.2.1, h6.2.2.1, h6.2.2.2.1⟩

theorem foldl_take_succ {f : Nat → Int × Int → Nat} {l : Fields} {k : Nat} {p : Int × Int} (h : l[k]? = some p) : (l.take (k + 1)).foldl f 0 = f ((l.take k).foldl f 0) p := by
  rw [List.take_add_one, h]; simp
theorem deepStep_le (f : Int → Nat) (left : Nat) (hf : ∀ t, f t ≤ left) (hl : 1 ≤ left) : ∀ (l : Fields), l.foldl (deepStep f (left + 1)) 0 ≤ left := fun l =>
  foldl_le (b := left) (fun n p h => by
    unfold deepStep
    split
    · exact Nat.max_le.2 ⟨h, hf _⟩
    · exact h) l 0 (Nat.zero_le _)
theorem max_num5 (a b : Nat) : Value.int .i64 (if a < b then (b : Int) else (a : Int)) = .int .i64 ((max a b : Nat) : Int) := by
  congr 1; split <;> omega
theorem below_box {w w' : World} {o : Obj} (h : Below (w.alloc o).heap.size (w.alloc o) w') : Below w.heap.size w w' := (below_alloc w o).trans (h.mono (by simp))

def FN (P Q : Nat) : Value := .func (.func 45) #[] #[.pointer (some ⟨P, 0, none⟩), .pointer (some ⟨Q, 0, none⟩)]

set_option maxRecDepth 100000 in
set_option maxHeartbeats 4000000 in
theorem deep1_any (s : Schema) (hr : rightB s = true) (sa : Option Addr) (sn sc P Q : Nat) (L : Nat) : ∀ (hL : L ≤ 6) (t : Nat) (w : World), t < s.length → Sch w (.slice sa sn sc) s →
    w.cell? ⟨P, 0, none⟩ = some (.slice sa sn sc) → w.cell? ⟨Q, 0, none⟩ = some (.func (.func 45) #[] #[.pointer (some ⟨P, 0, none⟩), .pointer (some ⟨Q, 0, none⟩)]) →
    Calls Tryd.prog 45 #[.int .i64 t, .int .i64 ((L : Int) + 1), .pointer (some ⟨P, 0, none⟩), .pointer (some ⟨Q, 0, none⟩)] w fun r w' => r = .returned (.int .i64 (deepL s (L + 1) t)) ∧ Below w.heap.size w w' := by
  induction L with
  | zero =>
    intro hL t w ht hs hP hQ
    obtain ⟨l, hl⟩ := get_lt (l := s) (i := t) ht
    obtain ⟨b, off, a2, cap2, rfl, hbb, hc, hf, hlm, hlc, hcm2⟩ := hs.at_ hl
    have hd1 := deepL_one s t
    have hsn : sn = s.length := by obtain ⟨a, cap, e, _⟩ := hs.shape; simp only [Value.slice.injEq] at e; exact e.2.1
    have hl6 := (right_small hr).2.2 l (List.mem_of_getElem? hl)
    obtain ⟨m, hm⟩ : ∃ m, m = l.length := ⟨_, rfl⟩
    rw [← hm] at hc hf hlm hlc hl6
    have hm6 := hl6.2.1
    have Hm := hid hm
    have Hkf := hid (fun p hp => right_field hr hl (p := p) hp)
    have htn : t < sn := by omega
    have Hd1 := hid hd1
    clear hm hsn hl6 hd1
    have e0 : ((0 : Nat) : Int) + 1 = 1 := rfl
    rw [e0, Hd1.out]
    go_enter Tryd.func45, Tryd.ntmps45
    go_wp2_with fail
    go_loopw [7, 17] (fun n i wr => ∃ k : Nat, k ≤ m ∧ i = .int .i64 k ∧ n = .int .i64 0 ∧ Below w.heap.size w wr) (fun _ i _ => m - (intOf i).toNat)
    case atStart => exact ⟨0, Nat.zero_le _, rfl, rfl, Below.refl _ _⟩
    case round =>
      obtain ⟨k, hk, rfl, rfl, hbl⟩ := hrel
      by_cases hlt : k < m
      · obtain ⟨p, hp⟩ := get_lt (l := l) (i := k) (by rw [← Hm.out]; exact hlt)
        obtain ⟨b2, off2, rfl, hbb2, q1, q2⟩ := (hf.below hbl (Nat.le_refl _)).at_ hp
        obtain ⟨kd, ty⟩ := p
        simp only at q1 q2
        have hty := typed_any kd
        generalize knownK kd = kn at *
        generalize typedK kd = is at *
        clear hp hf
        cases is
        all_goals
          go_wp2_with (go_at_call 46; refine (hty _).mono ?_; rintro r1 w1 ⟨rfl, rfl⟩)
          go_roundw
          case rel => exact ⟨k + 1, by omega, by go_num, rfl, hbl.trans ((below_alloc _ _).mono hbl.size)⟩
          case measure => simp [intOf] <;> omega
      · obtain rfl : k = m := by omega
        go_wp2_with fail
        go_ret
        exact ⟨rfl, hbl⟩
  | succ L ihL =>
    intro hL t w ht hs hP hQ
    obtain ⟨A, hA⟩ : ∃ A, A = L + 1 := ⟨_, rfl⟩
    have ih0 := ihL (by omega)
    have hdle := fun t => deepL_le s L t
    rw [show ((L : Nat) : Int) + 1 = (A : Int) by omega, ← hA] at ih0
    rw [← hA] at hdle hL ⊢
    have ih := hid ih0
    have hA1 : 1 ≤ A := by omega
    clear ihL ih0 hA
    have hs0 := hid hs
    have hPQ := hid (And.intro hP hQ)
    obtain ⟨l, hl⟩ := get_lt (l := s) (i := t) ht
    obtain ⟨b, off, a2, cap2, rfl, hbb, hc, hf, hlm, hlc, hcm2⟩ := hs.at_ hl
    have hsn : sn = s.length := by obtain ⟨a, cap, e, _⟩ := hs.shape; simp only [Value.slice.injEq] at e; exact e.2.1
    have hl6 := (right_small hr).2.2 l (List.mem_of_getElem? hl)
    obtain ⟨m, hm⟩ : ∃ m, m = l.length := ⟨_, rfl⟩
    rw [← hm] at hc hf hlm hlc hl6
    have hm6 := hl6.2.1
    have Hm := hid hm
    have Hkf := hid (fun p hp => right_field hr hl (p := p) hp)
    have htn : t < sn := by omega
    have Hd := hid (show deepL s (A + 1) t = l.foldl (deepStep (deepL s A) (A + 1)) 0 + 1 by rw [deepL, typeL_at hl])
    have Hle := hid (fun l => deepStep_le (deepL s A) A hdle hA1 l)
    rw [Hd.out]
    clear hm hsn hl6 hs
    go_enter Tryd.func45, Tryd.ntmps45
    go_wp2_with fail
    go_loopw [7, 17] (fun n i wr => ∃ k : Nat, k ≤ m ∧ i = .int .i64 k ∧ n = .int .i64 ((l.take k).foldl (deepStep (deepL s A) (A + 1)) 0 : Nat) ∧ Below w.heap.size w wr) (fun _ i _ => m - (intOf i).toNat)
    case atStart => exact ⟨0, Nat.zero_le _, rfl, rfl, Below.refl _ _⟩
    case round =>
      obtain ⟨k, hk, rfl, rfl, hbl⟩ := hrel
      have hle := Hle.out (l.take k)
      by_cases hlt : k < m
      · obtain ⟨p, hp⟩ := get_lt (l := l) (i := k) (by rw [← Hm.out]; exact hlt)
        obtain ⟨b2, off2, rfl, hbb2, q1, q2⟩ := (hf.below hbl (Nat.le_refl _)).at_ hp
        obtain ⟨k1, k5, t0, t1⟩ := Hkf.out p (List.mem_of_getElem? hp)
        obtain ⟨kd, ty⟩ := p
        simp only at q1 q2 k1 k5 t0 t1
        obtain ⟨ty, rfl⟩ : ∃ q : Nat, ty = q := ⟨ty.toNat, by omega⟩
        have Hst := hid (foldl_take_succ (f := deepStep (deepL s A) (A + 1)) hp)
        have hty := typed_any kd
        generalize (l.take k).foldl (deepStep (deepL s A) (A + 1)) 0 = n at *
        generalize knownK kd = kn at *
        have hPr : ∀ o, ((wr.alloc o).cell? ⟨P, 0, none⟩ = some (.slice (some ⟨b, off, none⟩) sn sc)) ∧ ((wr.alloc o).cell? ⟨Q, 0, none⟩ = some (.func (.func 45) #[] #[.pointer (some ⟨P, 0, none⟩), .pointer (some ⟨Q, 0, none⟩)])) := fun o => by
          have hb' := hbl.trans ((below_alloc wr o).mono hbl.size)
          exact ⟨(hb'.cell (World.block_lt_of_cell? w ⟨P, 0, none⟩ hPQ.out.1)).trans hPQ.out.1, (hb'.cell (World.block_lt_of_cell? w ⟨Q, 0, none⟩ hPQ.out.2)).trans hPQ.out.2⟩
        have hcall := fun o => ih.out ty (wr.alloc o) (by omega) (hs0.out.below (hbl.trans ((below_alloc wr o).mono hbl.size)) (Nat.le_refl _)) (hPr o).1 (hPr o).2
        have hPo := fun o => (hPr o).1
        have hQo := fun o => (hPr o).2
        clear hp hf hPr
        by_cases h4 : 4 ≤ kd
        · have hT : typedK kd = true := decide_eq_true ⟨h4, k5⟩
          rw [hT] at hty
          by_cases hn : n < A
          · have hS := hid (show deepStep (deepL s A) (A + 1) n (kd, (ty : Int)) = max n (deepL s A ty) by unfold deepStep; rw [if_pos ⟨h4, by omega, by omega⟩])
            have hdl := hdle ty
            generalize deepL s A (ty : Int) = dx at *
            have e1 : (1 : Int) < (A : Int) + 1 := by omega
            have e2 : decide ((1 : Int) < (A : Int) + 1) = true := decide_eq_true e1
            have e3 : IntKind.i64.wrap ((A : Int) + 1 - 1) = (A : Int) := (IntWalk.i64_in _ (by omega)).trans (by omega)
            have e5 : decide ((n : Int) < (A : Int)) = true := decide_eq_true (by omega)
            have e6 : decide (n < A) = true := decide_eq_true (by omega)
            go_wp2_with (go_at_call 46; refine (hty _).mono ?_; rintro r1 w1 ⟨rfl, rfl⟩)
            ((refine (hcall _).mono ?_); rintro r2 w2 ⟨rfl, hb2⟩)
            have hb4 := hbl.trans ((below_box hb2).mono hbl.size)
            by_cases hnx : n < dx
            · have hM := hid (show deepStep (deepL s A) (A + 1) n (kd, (ty : Int)) = dx by rw [hS.out]; omega)
              have f1 : (n : Int) < (dx : Int) := by omega
              have f2 : decide ((n : Int) < (dx : Int)) = true := decide_eq_true f1
              go_wp2_with fail
              go_roundw
              case rel => exact ⟨k + 1, by omega, by go_num, by rw [Hst.out, hM.out], hb4⟩
              case measure => simp [intOf] <;> omega
            · have hM := hid (show deepStep (deepL s A) (A + 1) n (kd, (ty : Int)) = n by rw [hS.out]; omega)
              have f1 : ¬ ((n : Int) < (dx : Int)) := by omega
              have f2 : decide ((n : Int) < (dx : Int)) = false := decide_eq_false f1
              go_wp2_with fail
              go_roundw
              case rel => exact ⟨k + 1, by omega, by go_num, by rw [Hst.out, hM.out], hb4⟩
              case measure => simp [intOf] <;> omega
          · have hS := hid (show deepStep (deepL s A) (A + 1) n (kd, (ty : Int)) = n by unfold deepStep; rw [if_neg (by omega)])
            have e1 : (1 : Int) < (A : Int) + 1 := by omega
            have e3 : IntKind.i64.wrap ((A : Int) + 1 - 1) = (A : Int) := (IntWalk.i64_in _ (by omega)).trans (by omega)
            have e5 : decide ((n : Int) < (A : Int)) = false := decide_eq_false (by omega)
            have e6 : decide (n < A) = false := decide_eq_false (by omega)
            clear hcall
            go_wp2_with (go_at_call 46; refine (hty _).mono ?_; rintro r1 w1 ⟨rfl, rfl⟩)
            go_roundw
            case rel => exact ⟨k + 1, by omega, by go_num, by rw [Hst.out, hS.out], hbl.trans ((below_alloc _ _).mono hbl.size)⟩
            case measure => simp [intOf] <;> omega
        · have hT : typedK kd = false := decide_eq_false (by omega)
          rw [hT] at hty
          have hS := hid (show deepStep (deepL s A) (A + 1) n (kd, (ty : Int)) = n by unfold deepStep; rw [if_neg (fun h => h4 h.1)])
          clear hcall
          go_wp2_with (go_at_call 46; refine (hty _).mono ?_; rintro r1 w1 ⟨rfl, rfl⟩)
          go_roundw
          case rel => exact ⟨k + 1, by omega, by go_num, by rw [Hst.out, hS.out], hbl.trans ((below_alloc _ _).mono hbl.size)⟩
          case measure => simp [intOf] <;> omega
      · obtain rfl : k = m := by omega
        have hfin := hid (show (l.take k).foldl (deepStep (deepL s A) (A + 1)) 0 = l.foldl (deepStep (deepL s A) (A + 1)) 0 by rw [List.take_of_length_le (by rw [← Hm.out]; exact Nat.le_refl _)])
        obtain ⟨n, hn⟩ : ∃ n, n = (l.take k).foldl (deepStep (deepL s A) (A + 1)) 0 := ⟨_, rfl⟩
        rw [← hn] at hle ⊢
        have HN := hid (hn.trans hfin.out)
        clear hn hfin
        go_wp2_with fail
        go_ret
        exact ⟨by rw [← HN.out]; rfl, hbl⟩

set_option maxRecDepth 100000 in
set_option maxHeartbeats 4000000 in
theorem sdeep_any (s : Schema) (v : Value) (t : Int) (w : World) (hs : Sch w v s) :
    Calls Tryd.prog 16 #[v, .int .i64 t] w fun r w' => r = .returned (.int .i64 (deepV s t)) ∧ Below w.heap.size w w' := by
  obtain ⟨a, cap, rfl, hnc, hcm, hmost⟩ := hs.shape
  obtain ⟨n, hn⟩ : ∃ n, n = s.length := ⟨_, rfl⟩
  rw [← hn] at hs hnc hmost ⊢
  have Hn := hid hn
  clear hn
  obtain ⟨w1, hw1, hb1, hlt1, hbox⟩ : ∃ w1, w.alloc (.cells #[.slice a n cap] 26) = w1 ∧ Below w.heap.size w w1 ∧ w.heap.size < w1.heap.size ∧ w1.cell? ⟨w.heap.size, 0, none⟩ = some (.slice a n cap) :=
    ⟨_, rfl, below_alloc _ _, by simp, by simp [go_sem]⟩
  have hs1 := hs.below hb1 (Nat.le_refl _)
  have hright := right_any s (.slice a n cap) w1 hs1
  clear hs
  by_cases hr : rightB s = true
  · rw [hr] at hright
    by_cases h0 : 0 ≤ t
    · by_cases h1 : t < n
      · obtain ⟨k, rfl⟩ : ∃ k : Nat, t = k := ⟨t.toNat, by omega⟩
        have Hv := hid (show deepV s k = deepL s 6 k by rw [deepV, if_pos ⟨hr, h0, by rw [← Hn.out]; exact h1⟩])
        rw [Hv.out]
        have hk : k < n := by omega
        have hd0 : decide ((k : Int) < 0) = false := decide_eq_false (by omega)
        have hd1 : decide (n ≤ k) = false := decide_eq_false (by omega)
        have hd2 : decide ((n : Int) ≤ (k : Int)) = false := decide_eq_false (by omega)
        have hcall : ∀ W, Below w1.heap.size w1 W → ∀ P Q, W.cell? ⟨P, 0, none⟩ = some (.slice a n cap) → W.cell? ⟨Q, 0, none⟩ = some (.func (.func 45) #[] #[.pointer (some ⟨P, 0, none⟩), .pointer (some ⟨Q, 0, none⟩)]) →
            Calls Tryd.prog 45 #[.int .i64 k, .int .i64 6, .pointer (some ⟨P, 0, none⟩), .pointer (some ⟨Q, 0, none⟩)] W fun r w' => r = .returned (.int .i64 (deepL s 6 k)) ∧ Below W.heap.size W w' :=
          fun W hW P Q hP hQ => deep1_any s hr a n cap P Q 5 (by omega) k W (by rw [← Hn.out]; exact hk) (hs1.below hW (Nat.le_refl _)) hP hQ
        generalize deepL s 6 (k : Int) = dx at *
        clear h0 h1
        go_enter Tryd.func16, Tryd.ntmps16
        go_wp2_with (go_at_call 43; refine hright.mono ?_; rintro r1 w2 ⟨rfl, hb2⟩; have c2 := (hb2.cell hlt1).trans hbox)
        clear hw1
        obtain ⟨w3, hw3, hb3, hlt3, hbox3⟩ : ∃ w3, w2.alloc (.cells #[.func (.func 45) #[] #[.pointer (some ⟨w.heap.size, 0, none⟩), .pointer (some ⟨w2.heap.size, 0, none⟩)]] 92) = w3 ∧ Below w2.heap.size w2 w3 ∧ w2.heap.size < w3.heap.size ∧ w3.cell? ⟨w2.heap.size, 0, none⟩ = some (.func (.func 45) #[] #[.pointer (some ⟨w.heap.size, 0, none⟩), .pointer (some ⟨w2.heap.size, 0, none⟩)]) :=
          ⟨_, rfl, below_alloc _ _, by simp, by simp [go_sem]⟩
        have c3 := (hb3.cell (Nat.lt_of_lt_of_le hlt1 hb2.size)).trans c2
        have hb13 : Below w1.heap.size w1 w3 := hb2.trans (hb3.mono hb2.size)
        have hc := hcall w3 hb13 w.heap.size w2.heap.size c3 hbox3
        clear hcall
        go_wp2_with fail
        rw [hw3]
        ((refine hc.mono ?_); rintro r2 w4 ⟨rfl, hb4⟩)
        go_wp2_with fail
        go_ret
        exact ⟨rfl, hb1.trans ((hb13.trans (hb4.mono hb13.size)).mono hb1.size)⟩
      · have Hv := hid (show deepV s t = 0 by rw [deepV, if_neg (fun h => h1 (by rw [Hn.out]; exact h.2.2))])
        rw [Hv.out]
        have hd0 : decide (t < 0) = false := decide_eq_false (by omega)
        have hd1 : decide ((n : Int) ≤ t) = true := decide_eq_true (by omega)
        clear h0 h1
        go_enter Tryd.func16, Tryd.ntmps16
        go_wp2_with (go_at_call 43; refine hright.mono ?_; rintro r1 w2 ⟨rfl, hb2⟩; have c2 := (hb2.cell hlt1).trans hbox)
        go_ret
        exact ⟨rfl, hb1.trans (hb2.mono hb1.size)⟩
    · have Hv := hid (show deepV s t = 0 by rw [deepV, if_neg (fun h => h0 h.2.1)])
      rw [Hv.out]
      have hd0 : decide (t < 0) = true := decide_eq_true (by omega)
      clear h0
      go_enter Tryd.func16, Tryd.ntmps16
      go_wp2_with (go_at_call 43; refine hright.mono ?_; rintro r1 w2 ⟨rfl, hb2⟩; have c2 := (hb2.cell hlt1).trans hbox)
      go_ret
      exact ⟨rfl, hb1.trans (hb2.mono hb1.size)⟩
  · have Hv := hid (show deepV s t = 0 by rw [deepV, if_neg (fun h => hr h.1)])
    rw [Hv.out]
    rw [show rightB s = false by simpa using hr] at hright
    clear hr
    go_enter Tryd.func16, Tryd.ntmps16
    go_wp2_with (go_at_call 43; refine hright.mono ?_; rintro r1 w2 ⟨rfl, hb2⟩; have c2 := (hb2.cell hlt1).trans hbox)
    go_ret
    exact ⟨rfl, hb1.trans (hb2.mono hb1.size)⟩
end Go.Proofs.YtbhnbjaafejcjaaDoor


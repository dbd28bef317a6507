/- schema.typed, schema.right. -/
import Derived.Test.YtblbhlgihlgncaaDoorGa
import Derived.Test.YtblbhlgihlgncaaDoorProg
import Derived.Handy
import Derived.Deep.LoopGhost
import Derived.Test.YtblbhlgihlgncaaDoorGb
set_option linter.unusedVariables false
set_option linter.unusedSimpArgs false
namespace Go.Proofs.YtblbhlgihlgncaaDoor
section SRight
open Go.RowKit

def knownK (k : Int) : Bool := decide (1 ≤ k ∧ k ≤ 5)
def typedK (k : Int) : Bool := decide (4 ≤ k ∧ k ≤ 5)

theorem typed_any (k : Int) (w : World) : Calls Tryd.prog 80 #[.int .i64 k] w fun r w' => r = .returned (.tuple #[.bool (knownK k), .bool (typedK k)]) ∧ w' = w := by
  by_cases h : 1 ≤ k ∧ k ≤ 5
  · have : k = 1 ∨ k = 2 ∨ k = 3 ∨ k = 4 ∨ k = 5 := by omega
    rcases this with rfl | rfl | rfl | rfl | rfl
    all_goals
      go_enter Tryd.func80, Tryd.ntmps80
      go_wp2
      go_ret2
      exact ⟨rfl, rfl⟩
  · have H := hid (show knownK k = false ∧ typedK k = false from ⟨decide_eq_false h, decide_eq_false (by omega)⟩)
    have h1 : (k == 1) = false := by simp; omega
    have h2 : (k == 2) = false := by simp; omega
    have h3 : (k == 3) = false := by simp; omega
    have h4 : (k == 4) = false := by simp; omega
    have h5 : (k == 5) = false := by simp; omega
    clear h
    go_enter Tryd.func80, Tryd.ntmps80
    go_wp2
    go_ret2
    exact ⟨by rw [H.out.1, H.out.2]; rfl, rfl⟩

set_option maxHeartbeats 4000000 in
theorem right_any (s : Schema) (v : Value) (w : World) (hs : Sch w v s) :
    Calls Tryd.prog 59 #[v] w fun r w' => r = .returned (.bool (rightB s)) ∧ Below w.heap.size w w' := by
  obtain ⟨a, cap, rfl, hnc, hcm, hmost⟩ := hs.shape
  unfold maxLen at hmost
  obtain ⟨n, hn⟩ : ∃ n, n = s.length := ⟨_, rfl⟩
  rw [← hn] at hmost hnc hs ⊢
  have Hn := hid hn
  clear hn
  by_cases h1 : 1 ≤ n ∧ n ≤ 8
  · obtain ⟨h1, h8⟩ := h1
    go_enter Tryd.func59, Tryd.ntmps59
    go_wp2_with fail
    go_step3
    go_wp2_with fail
    go_step3
    go_wp2_with fail
    go_loopw [3, 20] (fun ok i wr => ∃ k : Nat, k ≤ n ∧ i = .int .i64 k ∧ ok = .bool ((s.take k).all (lOk n)) ∧ Below w.heap.size w wr) (fun _ i _ => n - (intOf i).toNat)
    case atStart => exact ⟨0, by omega, rfl, rfl, Below.refl _ _⟩
    case round =>
      obtain ⟨k, hk, rfl, rfl, hbl⟩ := hrel
      by_cases hlt : k < n
      · obtain ⟨l, hl⟩ := get_lt (l := s) (i := k) (by rw [← Hn.out]; exact hlt)
        obtain ⟨b, off, a2, cap2, rfl, hbb, hc, hf, hlm, hlc, hcm2⟩ := (hs.below hbl (Nat.le_refl _)).at_ hl
        unfold maxLen at hlm
        obtain ⟨m, hm⟩ : ∃ m, m = l.length := ⟨_, rfl⟩
        rw [← hm] at hlm hlc hc hf
        have Hm := hid hm
        have Hl := hid hl
        clear hm hl
        by_cases hml : 1 ≤ m ∧ m ≤ 6
        · obtain ⟨hm1, hm6⟩ := hml
          go_wp2_with fail
          obtain ⟨wo, rfl⟩ : ∃ wo : World, wo = wr := ⟨_, rfl⟩
          have hwo := hbl.size
          obtain ⟨q, hq⟩ : ∃ q, q = (s.take k).all (lOk n) := ⟨_, rfl⟩
          rw [← hq]
          have Hq := hid hq
          clear hq
          go_loopw [3, 34] (fun ok i wr => ∃ k : Nat, k ≤ m ∧ i = .int .i64 k ∧ ok = .bool q ∧ (l.take k).all (fOk n) = true ∧ Below wo.heap.size wo wr) (fun _ i _ => m - (intOf i).toNat)
          case atStart => exact ⟨0, by omega, rfl, rfl, rfl, Below.refl _ _⟩
          case round =>
            obtain ⟨i, hi, rfl, rfl, hall, hbl2⟩ := hrel
            have hsz2 := hbl2.size
            have Hall := hid hall
            clear hall
            by_cases hil : i < m
            · obtain ⟨p, hp⟩ := get_lt (l := l) (i := i) (by rw [← Hm.out]; exact hil)
              obtain ⟨b2, off2, rfl, hbb2, h1c, h2c⟩ := (hf.below hbl2 (Nat.le_refl _)).at_ hp
              obtain ⟨kd, ty⟩ := p
              simp only at h1c h2c
              have Hp := hid hp
              clear hp hf hc
              have ht := typed_any kd
              have hstep : ∀ b, fOk n (kd, ty) = b → ((l.take (i + 1)).all (fOk n)) = b := fun b hb => by rw [all_take_succ l _ i _ Hp.out, Hall.out, hb]; simp
              have Hstep := hid hstep
              clear hstep
              have badl : fOk n (kd, ty) = false → lOk n l = false := fun hb => by rw [lOk, all_false_of l _ i _ Hp.out hb, Bool.and_false]
              have badk : lOk n l = false → .bool false = Value.bool ((s.take (k + 1)).all (lOk n)) := fun hb => by rw [all_take_succ s _ k _ Hl.out, hb, Bool.and_false]
              have Hbadk := hid badk
              have Hbadl := hid badl
              clear badl badk
              by_cases hk1 : 1 ≤ kd ∧ kd ≤ 5
              · have k1 : knownK kd = true := decide_eq_true hk1
                rw [k1] at ht
                clear k1
                by_cases ht0 : ty < 0
                · have Hbad := hid (show fOk n (kd, ty) = false from decide_eq_false (by simp only; omega))
                  clear hk1
                  generalize typedK kd = tk at *
                  go_wp2_with (go_at_call 80; (with_reducible refine (ht _).mono ?_); rintro r w1 ⟨rfl, rfl⟩)
                  go_roundw
                  case rel => exact ⟨k + 1, by omega, by go_num, Hbadk.out (Hbadl.out Hbad.out), via (w := w) hbl (by go_grown)⟩
                  case measure => simp [intOf] <;> omega
                · by_cases ht1 : (n : Int) ≤ ty
                  · have Hbad := hid (show fOk n (kd, ty) = false from decide_eq_false (by simp only; omega))
                    clear hk1
                    generalize typedK kd = tk at *
                    go_wp2_with (go_at_call 80; (with_reducible refine (ht _).mono ?_); rintro r w1 ⟨rfl, rfl⟩)
                    go_roundw
                    case rel => exact ⟨k + 1, by omega, by go_num, Hbadk.out (Hbadl.out Hbad.out), via (w := w) hbl (by go_grown)⟩
                    case measure => simp [intOf] <;> omega
                  · by_cases hk4 : kd < 4
                    · have k2 : typedK kd = false := decide_eq_false (by omega)
                      rw [k2] at ht
                      clear k2
                      by_cases hty : ty = 0
                      · subst hty
                        have Hgood := hid (show fOk n (kd, 0) = true from decide_eq_true ⟨hk1.1, hk1.2, Int.le_refl _, show (0 : Int) < (n : Int) by omega, fun _ => rfl⟩)
                        clear hk1
                        go_wp2_with (go_at_call 80; (with_reducible refine (ht _).mono ?_); rintro r w1 ⟨rfl, rfl⟩)
                        go_roundw
                        case rel => exact ⟨i + 1, by omega, by go_num, rfl, by rw [Hstep.out _ Hgood.out], by go_grown⟩
                        case measure => simp [intOf] <;> omega
                      · have Hbad := hid (show fOk n (kd, ty) = false from decide_eq_false (by simp only; omega))
                        have htyb : (ty != 0) = true := by simpa using hty
                        clear hk1 hty
                        go_wp2_with (go_at_call 80; (with_reducible refine (ht _).mono ?_); rintro r w1 ⟨rfl, rfl⟩)
                        go_roundw
                        case rel => exact ⟨k + 1, by omega, by go_num, Hbadk.out (Hbadl.out Hbad.out), via (w := w) hbl (by go_grown)⟩
                        case measure => simp [intOf] <;> omega
                    · have k2 : typedK kd = true := decide_eq_true (by omega)
                      rw [k2] at ht
                      clear k2
                      have Hgood := hid (show fOk n (kd, ty) = true from decide_eq_true (by simp only; omega))
                      clear hk1
                      go_wp2_with (go_at_call 80; (with_reducible refine (ht _).mono ?_); rintro r w1 ⟨rfl, rfl⟩)
                      go_roundw
                      case rel => exact ⟨i + 1, by omega, by go_num, rfl, by rw [Hstep.out _ Hgood.out], by go_grown⟩
                      case measure => simp [intOf] <;> omega
              · have Hbad := hid (show fOk n (kd, ty) = false from decide_eq_false (by simp only; omega))
                rw [show knownK kd = false from decide_eq_false hk1] at ht
                clear hk1
                generalize typedK kd = tk at *
                go_wp2_with (go_at_call 80; (with_reducible refine (ht _).mono ?_); rintro r w1 ⟨rfl, rfl⟩)
                go_roundw
                case rel => exact ⟨k + 1, by omega, by go_num, Hbadk.out (Hbadl.out Hbad.out), via (w := w) hbl (by go_grown)⟩
                case measure => simp [intOf] <;> omega
            · obtain rfl : i = m := by omega
              have Hgl := hid (show lOk n l = true by
                have h1 := Hall.out
                rw [Hm.out, List.take_length] at h1
                rw [lOk, h1, Bool.and_true]
                exact decide_eq_true (by rw [← Hm.out]; exact ⟨hm1, hm6⟩))
              go_wp2_with fail
              go_roundw
              case rel => exact ⟨k + 1, by omega, by go_num, by rw [all_take_succ s _ k _ Hl.out, Hgl.out, Bool.and_true, Hq.out], via (w := w) hbl hbl2⟩
              case measure => simp [intOf] <;> omega
        · have Hres := hid (show rightB s = false by
            have hbad : lOk n l = false := by
              rw [lOk, show decide (1 ≤ l.length ∧ l.length ≤ 6) = false from decide_eq_false (by rw [← Hm.out]; exact hml)]; rfl
            rw [rightB, ← Hn.out, all_false_of s _ k _ Hl.out hbad, Bool.and_false])
          clear hs hf
          rcases Nat.lt_or_ge m 1 with hm1 | hm1
          · clear hml
            go_wp2_with fail
            (try rw [Exit.noGoto_ret])
            go_ret
            exact ⟨by rw [Hres.out]; rfl, hbl⟩
          · have hm6 : 6 < m := by omega
            clear hml
            go_wp2_with fail
            (try rw [Exit.noGoto_ret])
            go_ret
            exact ⟨by rw [Hres.out]; rfl, hbl⟩
      · obtain rfl : k = n := by omega
        have Hres := hid (show (s.take k).all (lOk k) = rightB s by
          rw [rightB, ← Hn.out, show decide (1 ≤ k ∧ k ≤ 8) = true from decide_eq_true ⟨h1, h8⟩, Bool.true_and, all_of_take s _ k (by rw [← Hn.out]; exact Nat.le_refl _)])
        clear hs
        rw [Hres.out]
        go_wp2_with fail
        (try rw [Exit.noGoto_ret])
        go_ret
        exact ⟨rfl, hbl⟩
  · have Hres := hid (show rightB s = false by rw [rightB, ← Hn.out, show decide (1 ≤ n ∧ n ≤ 8) = false from decide_eq_false h1]; rfl)
    rw [Hres.out]
    clear hs
    rcases Nat.lt_or_ge n 1 with hm1 | hm1
    · clear h1
      go_enter Tryd.func59, Tryd.ntmps59
      go_wp2_with fail
      go_step3
      go_wp2_with fail
      (try rw [Exit.noGoto_ret])
      go_ret
      exact ⟨rfl, Below.refl _ _⟩
    · have hm6 : 8 < n := by omega
      clear h1
      go_enter Tryd.func59, Tryd.ntmps59
      go_wp2_with fail
      go_step3
      go_wp2_with fail
      (try rw [Exit.noGoto_ret])
      go_ret
      exact ⟨rfl, Below.refl _ _⟩
end SRight

section SSchGet
open Go.RowKit

theorem new_any (c : Int) (h : c ≠ 0) (w : World) : Calls Tryd.prog 16 #[.int .i64 c] w fun r w' => r = .returned (.iface 37 (.int .i64 c)) ∧ w' = w := by
  have hh : ¬ c = 0 := h
  go_enter Tryd.func16, Tryd.ntmps16
  go_wp2
  go_ret
  exact ⟨rfl, rfl⟩

theorem check_any (s : Schema) (v : Value) (w : World) (hs : Sch w v s) :
    Calls Tryd.prog 30 #[v] w fun r w' => r = .returned (ErrV (if rightB s then 0 else 1)) ∧ Below w.heap.size w w' := by
  have hr := right_any s v w hs
  generalize rightB s = b at *
  cases b
  · go_enter Tryd.func30, Tryd.ntmps30
    go_wp2_with fail
    ((refine hr.mono ?_); rintro r w1 ⟨rfl, hb⟩)
    go_wp2_with fail
    ((refine (new_any 1 (by omega) _).mono ?_); rintro r2 w2 ⟨rfl, rfl⟩)
    go_wp2
    go_ret
    exact ⟨rfl, hb⟩
  · go_enter Tryd.func30, Tryd.ntmps30
    go_wp2_with fail
    ((refine hr.mono ?_); rintro r w1 ⟨rfl, hb⟩)
    go_wp2
    go_ret
    exact ⟨rfl, hb⟩

def RetF (l : Fields) (w : World) (e : Ending) (w' : World) : Prop := ∃ u, e = .returned u ∧ Flds w u l ∧ w' = w

theorem Flds.nil (w : World) : Flds w (.slice none 0 0) [] := Row.nil w 2
theorem fields_any (s : Schema) (v : Value) (t : Int) (w : World) (hs : Sch w v s) :
    Calls Tryd.prog 63 #[v, .int .i64 t] w (RetF (typeL s t) w) := by
  obtain ⟨a, cap, rfl, hnc, hcm, hmost⟩ := hs.shape
  unfold maxLen at hmost
  obtain ⟨n, hn⟩ : ∃ n, n = s.length := ⟨_, rfl⟩
  rw [← hn] at hmost hnc hs ⊢
  have Hn := hid hn
  clear hn
  by_cases h0 : t < 0
  · have H := hid (show RetF (typeL s t) w (.returned (.slice none 0 0)) w from ⟨_, rfl, by rw [typeL_out (by omega)]; exact Flds.nil w, rfl⟩)
    clear hs
    go_enter Tryd.func63, Tryd.ntmps63
    go_wp2
    go_ret
    exact H.out
  · obtain ⟨k, rfl⟩ : ∃ k : Nat, t = (k : Int) := ⟨t.toNat, by omega⟩
    by_cases h1 : k < n
    · obtain ⟨l, hl⟩ := get_lt (l := s) (i := k) (by rw [← Hn.out]; exact h1)
      obtain ⟨b, off, a2, cap2, rfl, hbb, hc, hf, hlm, hlc, hcm2⟩ := hs.at_ hl
      have H := hid (show RetF (typeL s k) w (.returned (.slice a2 l.length cap2)) w from ⟨_, rfl, by rw [typeL_at hl]; exact hf, rfl⟩)
      clear hs hf hl
      go_enter Tryd.func63, Tryd.ntmps63
      go_wp2
      go_ret
      exact H.out
    · have H := hid (show RetF (typeL s k) w (.returned (.slice none 0 0)) w from ⟨_, rfl, by rw [typeL_out (by have := Hn.out; omega)]; exact Flds.nil w, rfl⟩)
      clear hs
      go_enter Tryd.func63, Tryd.ntmps63
      go_wp2
      go_ret
      exact H.out

abbrev FV (p : Int × Int) : Value := .agg #[.int .i64 p.1, .int .i64 p.2]

set_option maxHeartbeats 1000000 in
theorem field_any (s : Schema) (v : Value) (t i : Int) (w : World) (hs : Sch w v s) :
    Calls Tryd.prog 61 #[v, .int .i64 t, .int .i64 i] w fun r w' => r = .returned (.agg #[.int .i64 (fieldP s t i).1, .int .i64 (fieldP s t i).2]) ∧ Below w.heap.size w w' := by
  have hc := fun o => fields_any s v t (w.alloc o) (hs.alloc o)
  obtain ⟨l, hl⟩ : ∃ l, l = typeL s t := ⟨_, rfl⟩
  rw [← hl] at hc
  have Hl := hid hl
  clear hl
  by_cases h0 : 0 ≤ i ∧ i < l.length
  · obtain ⟨k, rfl⟩ : ∃ k : Nat, i = (k : Int) := ⟨i.toNat, by omega⟩
    obtain ⟨p, hp⟩ := get_lt (l := l) (i := k) (by omega)
    have hfp := fieldP_at (s := s) (t := t) (i := k) (p := p) (by rw [← Hl.out]; exact hp)
    rw [hfp]
    clear hfp
    obtain ⟨kd, ty⟩ := p
    simp only
    obtain ⟨m, hm⟩ : ∃ m, m = l.length := ⟨_, rfl⟩
    have Hm := hid hm
    have Hp := hid hp
    rw [← hm] at h0
    clear hm hp
    go_enter Tryd.func61, Tryd.ntmps61
    go_wp2_with fail
    ((refine (hc _).mono ?_); rintro r w1 ⟨u, rfl, hf, rfl⟩)
    obtain ⟨a, cap, rfl, hlc, hcm⟩ := hf.shape
    rw [← Hm.out] at hlc hf
    rw [← Hm.out]
    have hmm : m ≤ 2 ^ 63 - 1 := by unfold maxLen at hcm; omega
    obtain ⟨b, off, rfl, hbb, h1c, h2c⟩ := hf.at_ Hp.out
    clear hf hc
    go_wp2
    go_returns
    exact ⟨rfl, by go_grown⟩
  · rw [fieldP_out (by rw [← Hl.out]; exact h0)]
    obtain ⟨m, hm⟩ : ∃ m, m = l.length := ⟨_, rfl⟩
    have Hm := hid hm
    rw [← hm] at h0
    clear hm
    rcases Int.lt_or_le i 0 with hi | hi
    · clear h0
      go_enter Tryd.func61, Tryd.ntmps61
      go_wp2_with fail
      ((refine (hc _).mono ?_); rintro r w1 ⟨u, rfl, hf, rfl⟩)
      obtain ⟨a, cap, rfl, hlc, hcm⟩ := hf.shape
      rw [← Hm.out]
      clear hf hc
      go_wp2
      go_returns
      exact ⟨rfl, by go_grown⟩
    · have hmi : (m : Int) ≤ i := by omega
      clear h0
      go_enter Tryd.func61, Tryd.ntmps61
      go_wp2_with fail
      ((refine (hc _).mono ?_); rintro r w1 ⟨u, rfl, hf, rfl⟩)
      obtain ⟨a, cap, rfl, hlc, hcm⟩ := hf.shape
      rw [← Hm.out]
      clear hf hc
      go_wp2
      go_returns
      exact ⟨rfl, by go_grown⟩

@[go_sem] theorem fieldF0 (a b : Int) (w : World) : (Instr.field 24 (.agg #[.int .i64 a, .int .i64 b]) 0).run Tryd.prog w = .ok (.int .i64 a) w := by kernel_rfl
@[go_sem] theorem fieldF1 (a b : Int) (w : World) : (Instr.field 24 (.agg #[.int .i64 a, .int .i64 b]) 1).run Tryd.prog w = .ok (.int .i64 b) w := by kernel_rfl

theorem kind_any (s : Schema) (v : Value) (t i : Int) (w : World) (hs : Sch w v s) :
    Calls Tryd.prog 34 #[v, .int .i64 t, .int .i64 i] w fun r w' => r = .returned (.int .i64 (fieldP s t i).1) ∧ Below w.heap.size w w' := by
  have hc := field_any s v t i w hs
  go_enter Tryd.func34, Tryd.ntmps34
  go_wp2_with fail
  ((refine hc.mono ?_); rintro r w1 ⟨rfl, hb⟩)
  go_wp2
  go_ret
  exact ⟨rfl, hb⟩

theorem type_any (s : Schema) (v : Value) (t i : Int) (w : World) (hs : Sch w v s) :
    Calls Tryd.prog 35 #[v, .int .i64 t, .int .i64 i] w fun r w' => r = .returned (.int .i64 (fieldP s t i).2) ∧ Below w.heap.size w w' := by
  have hc := field_any s v t i w hs
  go_enter Tryd.func35, Tryd.ntmps35
  go_wp2_with fail
  ((refine hc.mono ?_); rintro r w1 ⟨rfl, hb⟩)
  go_wp2
  go_ret
  exact ⟨rfl, hb⟩

theorem nfields_any (s : Schema) (v : Value) (t : Int) (w : World) (hs : Sch w v s) :
    Calls Tryd.prog 38 #[v, .int .i64 t] w fun r w' => r = .returned (.int .i64 (typeL s t).length) ∧ w' = w := by
  have hc := fields_any s v t w hs
  go_enter Tryd.func38, Tryd.ntmps38
  go_wp2_with fail
  ((refine hc.mono ?_); rintro r w1 ⟨u, rfl, hf, rfl⟩)
  obtain ⟨a, cap, rfl, hlc, hcm⟩ := hf.shape
  clear hf hc
  go_wp2
  go_ret
  exact ⟨rfl, rfl⟩
end SSchGet

end Go.Proofs.YtblbhlgihlgncaaDoor


/- control's other functions: word, next, Born, Gone, Busy, Written, Published, Still; the document's. -/
import Derived.Test.YtbhnbjaafejcjaaDoorL1Ctl
set_option linter.unusedVariables false
namespace Go.Proofs.YtbhnbjaafejcjaaDoor
open Go.RowKit

theorem via {w w1 w2 : World} (h : Below w.heap.size w w1) (k : Below w1.heap.size w1 w2) : Below w.heap.size w w2 := h.trans (k.mono h.size)

theorem word_any (e g b : Int) (l u : Bool) (hf : ctlFits e g b = true) (w : World) :
    Calls Tryd.prog 56 #[CV e g b l u] w fun r w' => r = .returned (U (ctlW e g b l u)) ∧ Below w.heap.size w w' := by
  go_enter Tryd.func56, Tryd.ntmps56
  go_wp2_with fail
  ((refine (pack_yes e g b l u hf _).mono ?_); rintro r1 w1 ⟨rfl, hb⟩)
  go_wp2
  go_ret
  exact ⟨rfl, via (by go_grown) hb⟩

theorem new_any (c : Int) (h : c ≠ 0) (w : World) : Calls Tryd.prog 44 #[.int .i64 c] w fun r w' => r = .returned (.iface 31 (.int .i64 c)) ∧ w' = w := by
  have hh : ¬ c = 0 := h
  go_enter Tryd.func44, Tryd.ntmps44
  go_wp2
  go_ret
  exact ⟨rfl, rfl⟩

theorem errV_ne {c : Int} (h : c ≠ 0) : ErrV c = .iface 31 (.int .i64 c) := if_neg h

def nextC (g : Int) : Int := if g < 2147483647 then 0 else 16
def nextV (e g b : Int) (l u : Bool) : BitVec 64 := if g < 2147483647 then ctlW e (g + 1) b l u else 0#64

set_option maxHeartbeats 1000000 in
theorem next_any (e g b : Int) (l u : Bool) (hf : ctlFits e g b = true) (w : World) :
    Calls Tryd.prog 57 #[CV e g b l u] w fun r w' => r = .returned (.tuple #[U (nextV e g b l u), ErrV (nextC g)]) ∧ Below w.heap.size w w' := by
  have h' : 0 ≤ e ∧ e ≤ 32767 ∧ 0 ≤ g ∧ g ≤ 2147483647 ∧ 0 ≤ b ∧ b ≤ 65535 := of_decide_eq_true hf
  obtain ⟨a0, a1, a2, a3, a4, a5⟩ := h'
  clear hf
  by_cases hg : g < 2147483647
  · have hp := pack_yes e (g + 1) b l u (decide_eq_true (by omega))
    have Hv := hid (show nextV e g b l u = ctlW e (g + 1) b l u from if_pos hg)
    have Hc := hid (show nextC g = 0 from if_pos hg)
    go_enter Tryd.func57, Tryd.ntmps57
    go_wp2_with fail
    ((refine (hp _).mono ?_); rintro r1 w1 ⟨rfl, hb⟩)
    go_wp2
    go_ret2
    exact ⟨by rw [Hv.out, Hc.out]; rfl, via (by go_grown) hb⟩
  · have hp := pack_no e (g + 1) b l u ⟨by omega, by omega⟩ ⟨by omega, by omega⟩ ⟨by omega, by omega⟩ (decide_eq_false (by omega))
    have Hv := hid (show nextV e g b l u = 0#64 from if_neg hg)
    have Hc := hid (show nextC g = 16 from if_neg hg)
    go_enter Tryd.func57, Tryd.ntmps57
    go_wp2_with fail
    ((refine (hp _).mono ?_); rintro r1 w1 ⟨rfl, hb⟩)
    go_wp2_with fail
    ((refine (new_any 16 (by omega) _).mono ?_); rintro r2 w2 ⟨rfl, rfl⟩)
    go_wp2
    go_ret2
    exact ⟨by rw [Hv.out, Hc.out]; rfl, via (by go_grown) hb⟩

def bornV (x : BitVec 64) : BitVec 64 := ctlW (unE x) 0 0 true false
def goneV (x : BitVec 64) : BitVec 64 := ctlW ((unE x + 1) % 32768) 0 0 false false
def busyV (x : BitVec 64) : BitVec 64 := ctlW (unE x) (unG x) (unB x) (unL x) true
def writtenC (x : BitVec 64) : Int := if unL x && unU x then nextC (unG x) else 13
def writtenV (x : BitVec 64) : BitVec 64 := if unL x && unU x then nextV (unE x) (unG x) (unB x) (unL x) false else 0#64
def pubC (x : BitVec 64) (b : Int) : Int := if !unL x || unU x then 13 else if b < 1 ∨ 65536 ≤ b then 1 else nextC (unG x)
def pubV (x : BitVec 64) (b : Int) : BitVec 64 := if !unL x || unU x then 0#64 else if b < 1 ∨ 65536 ≤ b then 0#64 else nextV (unE x) (unG x) b (unL x) (unU x)

theorem born_any (x : BitVec 64) (w : World) : Calls Tryd.prog 28 #[U x] w fun r w' => r = .returned (U (bornV x)) ∧ Below w.heap.size w w' := by
  have hf : ctlFits (unE x) 0 0 = true := by
    have h' : 0 ≤ unE x ∧ unE x ≤ 32767 ∧ 0 ≤ unG x ∧ unG x ≤ 2147483647 ∧ 0 ≤ unB x ∧ unB x ≤ 65535 := of_decide_eq_true (un_fits x)
    exact decide_eq_true (by omega)
  have hw := word_any (unE x) 0 0 true false hf
  have hu := unpack_any x
  unfold unC CV at hu
  clear hf
  unfold bornV
  generalize unE x = xe at *
  generalize unG x = xg at *
  generalize unB x = xb at *
  generalize unL x = xl at *
  generalize unU x = xu at *
  generalize ctlW xe 0 0 true false = y at *
  go_enter Tryd.func28, Tryd.ntmps28
  go_wp2_with fail
  ((refine (hu _).mono ?_); rintro r1 w1 ⟨rfl, hb⟩)
  go_wp2_with fail
  ((refine (hw _).mono ?_); rintro r2 w2 ⟨rfl, hb2⟩)
  go_wp2
  go_ret
  exact ⟨rfl, via hb hb2⟩

theorem gone_any (x : BitVec 64) (w : World) : Calls Tryd.prog 29 #[U x] w fun r w' => r = .returned (U (goneV x)) ∧ Below w.heap.size w w' := by
  have h' : 0 ≤ unE x ∧ unE x ≤ 32767 ∧ 0 ≤ unG x ∧ unG x ≤ 2147483647 ∧ 0 ≤ unB x ∧ unB x ≤ 65535 := of_decide_eq_true (un_fits x)
  have hf : ctlFits ((unE x + 1) % 32768) 0 0 = true := decide_eq_true (by omega)
  have hw := word_any ((unE x + 1) % 32768) 0 0 false false hf
  have hu := unpack_any x
  unfold unC CV at hu
  obtain ⟨a0, a1, _⟩ := h'
  clear hf
  unfold goneV
  generalize unE x = xe at *
  generalize unG x = xg at *
  generalize unB x = xb at *
  generalize unL x = xl at *
  generalize unU x = xu at *
  generalize ctlW ((xe + 1) % 32768) 0 0 false false = y at *
  go_enter Tryd.func29, Tryd.ntmps29
  go_wp2_with fail
  ((refine (hu _).mono ?_); rintro r1 w1 ⟨rfl, hb⟩)
  go_wp2_with fail
  ((refine (hw _).mono ?_); rintro r2 w2 ⟨rfl, hb2⟩)
  go_wp2
  go_ret
  exact ⟨rfl, via hb hb2⟩

theorem busy_any (x : BitVec 64) (w : World) : Calls Tryd.prog 25 #[U x] w fun r w' => r = .returned (U (busyV x)) ∧ Below w.heap.size w w' := by
  have hw := word_any (unE x) (unG x) (unB x) (unL x) true (un_fits x)
  have hu := unpack_any x
  unfold unC CV at hu
  unfold busyV
  generalize unE x = xe at *
  generalize unG x = xg at *
  generalize unB x = xb at *
  generalize unL x = xl at *
  generalize unU x = xu at *
  generalize ctlW xe xg xb xl true = y at *
  go_enter Tryd.func25, Tryd.ntmps25
  go_wp2_with fail
  ((refine (hu _).mono ?_); rintro r1 w1 ⟨rfl, hb⟩)
  go_wp2_with fail
  ((refine (hw _).mono ?_); rintro r2 w2 ⟨rfl, hb2⟩)
  go_wp2
  go_ret
  have hsz := hb.size
  exact ⟨rfl, via (by go_grown) hb2⟩

set_option maxHeartbeats 1000000 in
theorem written_any (x : BitVec 64) (w : World) : Calls Tryd.prog 26 #[U x] w fun r w' => r = .returned (.tuple #[U (writtenV x), ErrV (writtenC x)]) ∧ Below w.heap.size w w' := by
  have hn := next_any (unE x) (unG x) (unB x) true false (un_fits x)
  have hu := unpack_any x
  unfold unC CV at hu
  obtain ⟨v, hv⟩ : ∃ v, writtenV x = v := ⟨_, rfl⟩
  obtain ⟨c, hc⟩ : ∃ c, writtenC x = c := ⟨_, rfl⟩
  rw [hv, hc]
  unfold writtenV at hv
  unfold writtenC at hc
  generalize unE x = xe at *
  generalize unG x = xg at *
  generalize unB x = xb at *
  generalize unL x = l at *
  generalize unU x = u at *
  cases l <;> cases u
  case true.true =>
    simp only [Bool.and_self, if_true] at hv hc
    rw [hv, hc] at hn
    have Hv := hid hv
    have Hc := hid hc
    clear hv hc
    go_enter Tryd.func26, Tryd.ntmps26
    go_wp2_with fail
    ((refine (hu _).mono ?_); rintro r1 w1 ⟨rfl, hb⟩)
    go_wp2_with fail
    ((refine (hn _).mono ?_); rintro r2 w2 ⟨rfl, hb2⟩)
    go_wp2
    go_ret2
    have hsz := hb.size
    exact ⟨rfl, via (by go_grown) hb2⟩
  all_goals
    simp only [Bool.and_false, Bool.and_true, Bool.and_self, Bool.false_eq_true, if_false] at hv hc
    have Hv := hid hv
    have Hc := hid hc
    clear hv hc
    go_enter Tryd.func26, Tryd.ntmps26
    go_wp2_with fail
    ((refine (hu _).mono ?_); rintro r1 w1 ⟨rfl, hb⟩)
    go_wp2_with fail
    ((refine (new_any 13 (by omega) _).mono ?_); rintro r2 w2 ⟨rfl, rfl⟩)
    go_wp2
    go_ret2
    have hsz := hb.size
    exact ⟨by rw [← Hv.out, ← Hc.out]; rfl, by go_grown⟩

set_option maxHeartbeats 1000000 in
theorem published_any (x : BitVec 64) (b : Int) (w : World) : Calls Tryd.prog 27 #[U x, .int .i64 b] w fun r w' => r = .returned (.tuple #[U (pubV x b), ErrV (pubC x b)]) ∧ Below w.heap.size w w' := by
  have hu := unpack_any x
  unfold unC CV at hu
  obtain ⟨v, hv⟩ : ∃ v, pubV x b = v := ⟨_, rfl⟩
  obtain ⟨c, hc⟩ : ∃ c, pubC x b = c := ⟨_, rfl⟩
  rw [hv, hc]
  unfold pubV at hv
  unfold pubC at hc
  have h' := of_decide_eq_true (un_fits x)
  generalize unE x = xe at *
  generalize unG x = xg at *
  generalize unB x = xb at *
  generalize unL x = l at *
  generalize unU x = u at *
  by_cases hlu : l = true ∧ u = false
  · obtain ⟨rfl, rfl⟩ := hlu
    simp only [Bool.not_true, Bool.or_self, Bool.false_eq_true, if_false] at hv hc
    by_cases hbb : b < 1 ∨ 65536 ≤ b
    · rw [if_pos hbb] at hv hc
      have Hv := hid hv
      have Hc := hid hc
      clear hv hc
      by_cases hb1 : b < 1
      · clear hbb
        go_enter Tryd.func27, Tryd.ntmps27
        go_wp2_with fail
        ((refine (hu _).mono ?_); rintro r1 w1 ⟨rfl, hb⟩)
        go_wp2_with fail
        ((refine (new_any 1 (by omega) _).mono ?_); rintro r2 w2 ⟨rfl, rfl⟩)
        go_wp2
        go_ret2
        have hsz := hb.size
        exact ⟨by rw [← Hv.out, ← Hc.out]; rfl, by go_grown⟩
      · have hb2 : 65536 ≤ b := by omega
        clear hbb h'
        go_enter Tryd.func27, Tryd.ntmps27
        go_wp2_with fail
        ((refine (hu _).mono ?_); rintro r1 w1 ⟨rfl, hb⟩)
        go_wp2_with fail
        ((refine (new_any 1 (by omega) _).mono ?_); rintro r2 w2 ⟨rfl, rfl⟩)
        go_wp2
        go_ret2
        have hsz := hb.size
        exact ⟨by rw [← Hv.out, ← Hc.out]; rfl, by go_grown⟩
    · rw [if_neg hbb] at hv hc
      have hb1 : ¬ b < 1 := by omega
      have hb2 : ¬ 65536 ≤ b := by omega
      have hn := next_any xe xg b true false (decide_eq_true (by omega))
      rw [hv, hc] at hn
      have Hv := hid hv
      have Hc := hid hc
      clear hv hc hbb h'
      go_enter Tryd.func27, Tryd.ntmps27
      go_wp2_with fail
      ((refine (hu _).mono ?_); rintro r1 w1 ⟨rfl, hb⟩)
      go_wp2_with fail
      ((refine (hn _).mono ?_); rintro r2 w2 ⟨rfl, hb2⟩)
      go_wp2
      go_ret2
      have hsz := hb.size
      exact ⟨rfl, via (by go_grown) hb2⟩
  · cases l <;> cases u
    case true.false => exact absurd ⟨rfl, rfl⟩ hlu
    all_goals
      simp only [Bool.not_true, Bool.not_false, Bool.or_true, Bool.true_or, Bool.or_false, Bool.or_self, if_true] at hv hc
      have Hv := hid hv
      have Hc := hid hc
      clear hv hc hlu h'
      go_enter Tryd.func27, Tryd.ntmps27
      go_wp2_with fail
      ((refine (hu _).mono ?_); rintro r1 w1 ⟨rfl, hb⟩)
      go_wp2_with fail
      ((refine (new_any 13 (by omega) _).mono ?_); rintro r2 w2 ⟨rfl, rfl⟩)
      go_wp2
      go_ret2
      have hsz := hb.size
      exact ⟨by rw [← Hv.out, ← Hc.out]; rfl, by go_grown⟩

def stillV (x y : BitVec 64) : Bool := decide (unE x = unE y) && (unL x && (unL y && (decide (unG x = unG y) || (decide (unG x + 1 = unG y) && !unU y))))

theorem top_err (c : Int) (w : World) (hl : LaidE w) : Calls Tryd.prog 13 #[ErrV c] w fun r w' => r = .returned (.int .i64 c) ∧ Below w.heap.size w w' := by
  by_cases h : c = 0
  · subst h; exact top_nil w
  · rw [errV_ne h]; exact top_code c w hl
end Go.Proofs.YtbhnbjaafejcjaaDoor


/- schema.Check, fields, field, Kind, Type, Fields; the document's Field, Fields. -/
import Derived.Test.YtmcpanjpjnlleaaDoorRight
import Derived.Test.YtmcpanjpjnlleaaDoorTop
import Derived.Test.YtmcpanjpjnlleaaDoorSchV
set_option linter.unusedVariables false
namespace Go.Proofs.YtmcpanjpjnlleaaDoor
open Go.RowKit

theorem new_any (c : Int) (h : c ≠ 0) (w : World) : Calls Tryd.prog 29 #[.int .i64 c] w fun r w' => r = .returned (.iface 45 (.int .i64 c)) ∧ w' = w := by
  have hh : ¬ c = 0 := h
  go_enter Tryd.func29, Tryd.ntmps29
  go_wp2
  go_ret
  exact ⟨rfl, rfl⟩

theorem check_any (s : Schema) (v : Value) (w : World) (hs : Sch w v s) :
    Calls Tryd.prog 38 #[v] w fun r w' => r = .returned (ErrV (if rightB s then 0 else 1)) ∧ Below w.heap.size w w' := by
  have hr := right_any s v w hs
  generalize rightB s = b at *
  cases b
  · go_enter Tryd.func38, Tryd.ntmps38
    go_wp2_with fail
    ((refine hr.mono ?_); rintro r w1 ⟨rfl, hb⟩)
    go_wp2_with fail
    ((refine (new_any 1 (by omega) _).mono ?_); rintro r2 w2 ⟨rfl, rfl⟩)
    go_wp2
    go_ret
    exact ⟨rfl, hb⟩
  · go_enter Tryd.func38, Tryd.ntmps38
    go_wp2_with fail
    ((refine hr.mono ?_); rintro r w1 ⟨rfl, hb⟩)
    go_wp2
    go_ret
    exact ⟨rfl, hb⟩

def RetF (l : Fields) (w : World) (e : Ending) (w' : World) : Prop := ∃ u, e = .returned u ∧ Flds w u l ∧ w' = w

theorem Flds.nil (w : World) : Flds w (.slice none 0 0) [] := Row.nil w 2
theorem fields_any (s : Schema) (v : Value) (t : Int) (w : World) (hs : Sch w v s) :
    Calls Tryd.prog 64 #[v, .int .i64 t] w (RetF (typeL s t) w) := by
  obtain ⟨a, cap, rfl, hnc, hcm, hmost⟩ := hs.shape
  unfold maxLen at hmost
  obtain ⟨n, hn⟩ : ∃ n, n = s.length := ⟨_, rfl⟩
  rw [← hn] at hmost hnc hs ⊢
  have Hn := hid hn
  clear hn
  by_cases h0 : t < 0
  · have H := hid (show RetF (typeL s t) w (.returned (.slice none 0 0)) w from ⟨_, rfl, by rw [typeL_out (by omega)]; exact Flds.nil w, rfl⟩)
    clear hs
    go_enter Tryd.func64, Tryd.ntmps64
    go_wp2
    go_ret
    exact H.out
  · obtain ⟨k, rfl⟩ : ∃ k : Nat, t = (k : Int) := ⟨t.toNat, by omega⟩
    by_cases h1 : k < n
    · obtain ⟨l, hl⟩ := get_lt (l := s) (i := k) (by rw [← Hn.out]; exact h1)
      obtain ⟨b, off, a2, cap2, rfl, hbb, hc, hf, hlm, hlc, hcm2⟩ := hs.at_ hl
      have H := hid (show RetF (typeL s k) w (.returned (.slice a2 l.length cap2)) w from ⟨_, rfl, by rw [typeL_at hl]; exact hf, rfl⟩)
      clear hs hf hl
      go_enter Tryd.func64, Tryd.ntmps64
      go_wp2
      go_ret
      exact H.out
    · have H := hid (show RetF (typeL s k) w (.returned (.slice none 0 0)) w from ⟨_, rfl, by rw [typeL_out (by have := Hn.out; omega)]; exact Flds.nil w, rfl⟩)
      clear hs
      go_enter Tryd.func64, Tryd.ntmps64
      go_wp2
      go_ret
      exact H.out

abbrev FV (p : Int × Int) : Value := .agg #[.int .i64 p.1, .int .i64 p.2]

set_option maxHeartbeats 1000000 in
theorem field_any (s : Schema) (v : Value) (t i : Int) (w : World) (hs : Sch w v s) :
    Calls Tryd.prog 63 #[v, .int .i64 t, .int .i64 i] w fun r w' => r = .returned (.agg #[.int .i64 (fieldP s t i).1, .int .i64 (fieldP s t i).2]) ∧ Below w.heap.size w w' := by
  have hc := fun o => fields_any s v t (w.alloc o) (hs.alloc o)
  obtain ⟨l, hl⟩ : ∃ l, l = typeL s t := ⟨_, rfl⟩
  rw [← hl] at hc
  have Hl := hid hl
  clear hl
  by_cases h0 : 0 ≤ i ∧ i < l.length
  · obtain ⟨k, rfl⟩ : ∃ k : Nat, i = (k : Int) := ⟨i.toNat, by omega⟩
    obtain ⟨p, hp⟩ := get_lt (l := l) (i := k) (by omega)
    have hfp := fieldP_at (s := s) (t := t) (i := k) (p := p) (by rw [← Hl.out]; exact hp)
    rw [hfp]
    clear hfp
    obtain ⟨kd, ty⟩ := p
    simp only
    obtain ⟨m, hm⟩ : ∃ m, m = l.length := ⟨_, rfl⟩
    have Hm := hid hm
    have Hp := hid hp
    rw [← hm] at h0
    clear hm hp
    go_enter Tryd.func63, Tryd.ntmps63
    go_wp2_with fail
    ((refine (hc _).mono ?_); rintro r w1 ⟨u, rfl, hf, rfl⟩)
    obtain ⟨a, cap, rfl, hlc, hcm⟩ := hf.shape
    rw [← Hm.out] at hlc hf
    rw [← Hm.out]
    have hmm : m ≤ 2 ^ 63 - 1 := by unfold maxLen at hcm; omega
    obtain ⟨b, off, rfl, hbb, h1c, h2c⟩ := hf.at_ Hp.out
    clear hf hc
    go_wp2
    go_returns
    exact ⟨rfl, by go_grown⟩
  · rw [fieldP_out (by rw [← Hl.out]; exact h0)]
    obtain ⟨m, hm⟩ : ∃ m, m = l.length := ⟨_, rfl⟩
    have Hm := hid hm
    rw [← hm] at h0
    clear hm
    rcases Int.lt_or_le i 0 with hi | hi
    · clear h0
      go_enter Tryd.func63, Tryd.ntmps63
      go_wp2_with fail
      ((refine (hc _).mono ?_); rintro r w1 ⟨u, rfl, hf, rfl⟩)
      obtain ⟨a, cap, rfl, hlc, hcm⟩ := hf.shape
      rw [← Hm.out]
      clear hf hc
      go_wp2
      go_returns
      exact ⟨rfl, by go_grown⟩
    · have hmi : (m : Int) ≤ i := by omega
      clear h0
      go_enter Tryd.func63, Tryd.ntmps63
      go_wp2_with fail
      ((refine (hc _).mono ?_); rintro r w1 ⟨u, rfl, hf, rfl⟩)
      obtain ⟨a, cap, rfl, hlc, hcm⟩ := hf.shape
      rw [← Hm.out]
      clear hf hc
      go_wp2
      go_returns
      exact ⟨rfl, by go_grown⟩

@[go_sem] theorem fieldF0 (a b : Int) (w : World) : (Instr.field 55 (.agg #[.int .i64 a, .int .i64 b]) 0).run Tryd.prog w = .ok (.int .i64 a) w := by kernel_rfl
@[go_sem] theorem fieldF1 (a b : Int) (w : World) : (Instr.field 55 (.agg #[.int .i64 a, .int .i64 b]) 1).run Tryd.prog w = .ok (.int .i64 b) w := by kernel_rfl

theorem kind_any (s : Schema) (v : Value) (t i : Int) (w : World) (hs : Sch w v s) :
    Calls Tryd.prog 46 #[v, .int .i64 t, .int .i64 i] w fun r w' => r = .returned (.int .i64 (fieldP s t i).1) ∧ Below w.heap.size w w' := by
  have hc := field_any s v t i w hs
  go_enter Tryd.func46, Tryd.ntmps46
  go_wp2_with fail
  ((refine hc.mono ?_); rintro r w1 ⟨rfl, hb⟩)
  go_wp2
  go_ret
  exact ⟨rfl, hb⟩

theorem type_any (s : Schema) (v : Value) (t i : Int) (w : World) (hs : Sch w v s) :
    Calls Tryd.prog 45 #[v, .int .i64 t, .int .i64 i] w fun r w' => r = .returned (.int .i64 (fieldP s t i).2) ∧ Below w.heap.size w w' := by
  have hc := field_any s v t i w hs
  go_enter Tryd.func45, Tryd.ntmps45
  go_wp2_with fail
  ((refine hc.mono ?_); rintro r w1 ⟨rfl, hb⟩)
  go_wp2
  go_ret
  exact ⟨rfl, hb⟩

theorem nfields_any (s : Schema) (v : Value) (t : Int) (w : World) (hs : Sch w v s) :
    Calls Tryd.prog 51 #[v, .int .i64 t] w fun r w' => r = .returned (.int .i64 (typeL s t).length) ∧ w' = w := by
  have hc := fields_any s v t w hs
  go_enter Tryd.func51, Tryd.ntmps51
  go_wp2_with fail
  ((refine hc.mono ?_); rintro r w1 ⟨u, rfl, hf, rfl⟩)
  obtain ⟨a, cap, rfl, hlc, hcm⟩ := hf.shape
  clear hf hc
  go_wp2
  go_ret
  exact ⟨rfl, rfl⟩
end Go.Proofs.YtmcpanjpjnlleaaDoor


/- A trouble as a list of codes and words; cause.New, At, Because. -/
import Derived.Test.YtppdbadigecegaaCW
set_option linter.unusedVariables false
set_option linter.unusedSimpArgs false
namespace Go.Proofs.Ytppdbadigecegaa
section SCMk
open Go.RowKit Go.Extern.Stop Go.Stop Go.Extern

/-- A trouble: its codes (false) and words (true), the outermost one first. -/
def TC (w : World) : Value → List (Bool × Int) → Prop
  | v, [] => v = .nilIface
  | v, (b, x) :: rest => (b = false ∧ rest = [] ∧ v = .iface 32 (.int .i64 x)) ∨
      (b = true ∧ rest ≠ [] ∧ ∃ A u, v = .iface 44 (.pointer (some ⟨A, 0, none⟩)) ∧ A < w.heap.size ∧ w.cell? ⟨A, 0, none⟩ = some u ∧ w.cell? ⟨A, 1, none⟩ = some (.int .i64 x) ∧ TC w u rest) ∨
      (b = false ∧ rest ≠ [] ∧ ∃ A u, v = .iface 41 (.pointer (some ⟨A, 0, none⟩)) ∧ A < w.heap.size ∧ w.cell? ⟨A, 0, none⟩ = some (.int .i64 x) ∧ w.cell? ⟨A, 1, none⟩ = some u ∧ TC w u rest)
theorem TC.below {w w' : World} : ∀ {L : List (Bool × Int)} {v : Value}, TC w v L → Below w.heap.size w w' → TC w' v L
  | [], v, h, _ => h
  | (b, x) :: rest, v, h, hb => by
    rcases h with h | ⟨h1, h2, A, u, h3, h4, h5, h6, h7⟩ | ⟨h1, h2, A, u, h3, h4, h5, h6, h7⟩
    · exact .inl h
    · exact .inr (.inl ⟨h1, h2, A, u, h3, Nat.lt_of_lt_of_le h4 hb.size, (hb.cell (p := ⟨A, 0, none⟩) h4).trans h5, (hb.cell (p := ⟨A, 1, none⟩) h4).trans h6, TC.below h7 hb⟩)
    · exact .inr (.inr ⟨h1, h2, A, u, h3, Nat.lt_of_lt_of_le h4 hb.size, (hb.cell (p := ⟨A, 0, none⟩) h4).trans h5, (hb.cell (p := ⟨A, 1, none⟩) h4).trans h6, TC.below h7 hb⟩)
theorem TC.iface {w : World} {L : List (Bool × Int)} {v : Value} (h : TC w v L) (hL : L ≠ []) : ∃ T x, v = .iface T x := by
  match L, hL, h with
  | (b, x) :: rest, _, h =>
    rcases h with ⟨_, _, e⟩ | ⟨_, _, A, u, e, _⟩ | ⟨_, _, A, u, e, _⟩
    · exact ⟨_, _, e⟩
    · exact ⟨_, _, e⟩
    · exact ⟨_, _, e⟩
theorem TC.shape {w : World} {L : List (Bool × Int)} {v : Value} (h : TC w v L) : (L = [] ∧ v = .nilIface) ∨ (L ≠ [] ∧ ∃ T x, v = .iface T x) := by
  by_cases hL : L = []
  · subst hL; exact .inl ⟨rfl, h⟩
  · exact .inr ⟨hL, h.iface hL⟩

/-- Its codes. -/
def codesL (L : List (Bool × Int)) : List Int := (L.filter fun p => !p.1).map (·.2)
theorem codesL_cons (b : Bool) (x : Int) (L : List (Bool × Int)) : codesL ((b, x) :: L) = if b then codesL L else x :: codesL L := by
  cases b <;> rfl
def wordL (L : List (Bool × Int)) : Int × Bool := L.foldl (fun s p => if p.1 then (p.2, true) else s) (0, false)

theorem new_errV (c : Int) (w : World) : Calls Try.prog 9 #[.int .i64 c] w fun r w' => r = .returned (ErrV c) ∧ w' = w := by
  by_cases h : c = 0
  · subst h
    go_enter Try.func9, Try.ntmps9
    go_wp2
    go_ret
    exact ⟨rfl, rfl⟩
  · unfold ErrV
    rw [if_neg h]
    have hh : ¬ c = 0 := h
    go_enter Try.func9, Try.ntmps9
    go_wp2
    go_ret
    exact ⟨rfl, rfl⟩
theorem at_nil (p : Int) (w : World) : Calls Try.prog 8 #[.nilIface, .int .i64 p] w fun r w' => r = .returned .nilIface ∧ w' = w := by
  go_enter Try.func8, Try.ntmps8
  go_wp2
  go_ret
  exact ⟨rfl, rfl⟩
theorem at_some (T : TypeId) (x : Value) (p : Int) (w : World) : Calls Try.prog 8 #[.iface T x, .int .i64 p] w fun r w' => r = .returned (.iface 44 (.pointer (some ⟨w.heap.size, 0, none⟩))) ∧ w' = w.alloc (.cells #[.iface T x, .int .i64 p] 46) := by
  go_enter Try.func8, Try.ntmps8
  go_wp2
  go_ret
  exact ⟨rfl, rfl⟩
theorem because_nil (c : Int) (w : World) : Calls Try.prog 7 #[.int .i64 c, .nilIface] w fun r w' => r = .returned (ErrV c) ∧ w' = w := by
  have hnew := new_errV c
  go_enter Try.func7, Try.ntmps7
  go_wp2_with (go_at_call 9; refine (hnew _).mono ?_; rintro r1 w1 ⟨rfl, rfl⟩)
  go_ret
  exact ⟨rfl, rfl⟩
theorem because_ok (T : TypeId) (x : Value) (w : World) : Calls Try.prog 7 #[.int .i64 0, .iface T x] w fun r w' => r = .returned (.iface T x) ∧ w' = w := by
  go_enter Try.func7, Try.ntmps7
  go_wp2
  go_ret
  exact ⟨rfl, rfl⟩
theorem because_some (c : Int) (hc : c ≠ 0) (T : TypeId) (x : Value) (w : World) : Calls Try.prog 7 #[.int .i64 c, .iface T x] w fun r w' => r = .returned (.iface 41 (.pointer (some ⟨w.heap.size, 0, none⟩))) ∧ w' = w.alloc (.cells #[.int .i64 c, .iface T x] 43) := by
  have hh : (c == 0) = false := by rw [beq_eq_false_iff_ne]; exact hc
  have hh2 : ¬ c = 0 := hc
  go_enter Try.func7, Try.ntmps7
  go_wp2
  go_ret
  exact ⟨rfl, rfl⟩

/-- A trouble, or nothing, at a word. -/
def atL (L : List (Bool × Int)) (p : Int) : List (Bool × Int) := if L = [] then [] else (true, p) :: L
/-- A code over it. -/
def overL (c : Int) (L : List (Bool × Int)) : List (Bool × Int) := if c = 0 then L else (false, c) :: L
theorem cat_any (L : List (Bool × Int)) (v : Value) (p : Int) (w : World) (h : TC w v L) : Calls Try.prog 8 #[v, .int .i64 p] w fun r w' => ∃ v', r = .returned v' ∧ TC w' v' (atL L p) ∧ Below w.heap.size w w' := by
  rcases h.shape with ⟨rfl, rfl⟩ | ⟨hL, T, x, rfl⟩
  · refine (at_nil p w).mono ?_
    rintro r w' ⟨rfl, rfl⟩
    exact ⟨_, rfl, rfl, Below.refl _ _⟩
  · refine (at_some T x p w).mono ?_
    rintro r w' ⟨rfl, rfl⟩
    refine ⟨_, rfl, ?_, below_alloc _ _⟩
    rw [atL, if_neg hL]
    exact .inr (.inl ⟨rfl, hL, w.heap.size, .iface T x, rfl, by simp, by simp, by simp, h.below (below_alloc _ _)⟩)
theorem cbecause_any (c : Int) (L : List (Bool × Int)) (v : Value) (w : World) (h : TC w v L) : Calls Try.prog 7 #[.int .i64 c, v] w fun r w' => ∃ v', r = .returned v' ∧ TC w' v' (overL c L) ∧ Below w.heap.size w w' := by
  rcases h.shape with ⟨rfl, rfl⟩ | ⟨hL, T, x, rfl⟩
  · refine (because_nil c w).mono ?_
    rintro r w' ⟨rfl, rfl⟩
    refine ⟨_, rfl, ?_, Below.refl _ _⟩
    unfold overL ErrV
    split
    · rfl
    · exact .inl ⟨rfl, rfl, rfl⟩
  · by_cases hc : c = 0
    · subst hc
      refine (because_ok T x w).mono ?_
      rintro r w' ⟨rfl, rfl⟩
      exact ⟨_, rfl, by rw [overL, if_pos rfl]; exact h, Below.refl _ _⟩
    · refine (because_some c hc T x w).mono ?_
      rintro r w' ⟨rfl, rfl⟩
      refine ⟨_, rfl, ?_, below_alloc _ _⟩
      rw [overL, if_neg hc]
      exact .inr (.inr ⟨rfl, hL, w.heap.size, .iface T x, rfl, by simp, by simp, by simp, h.below (below_alloc _ _)⟩)

/-- As a chain of parts. -/
theorem TC.chain {w : World} : ∀ {L : List (Bool × Int)} {v : Value}, TC w v L → ∃ xs : List Part, Chain w v xs ∧ xs.map (·.2) = L.map (fun p => if p.1 then some p.2 else none)
  | [], v, h => ⟨[], h, rfl⟩
  | (b, x) :: rest, v, h => by
    rcases h with ⟨rfl, rfl, rfl⟩ | ⟨rfl, h2, A, u, rfl, h4, h5, h6, h7⟩ | ⟨rfl, h2, A, u, rfl, h4, h5, h6, h7⟩
    · exact ⟨[(.iface 32 (.int .i64 x), none)], ⟨rfl, .inl ⟨x, rfl, rfl⟩⟩, rfl⟩
    · obtain ⟨xs, k1, k2⟩ := TC.chain h7
      exact ⟨(.iface 44 (.pointer (some ⟨A, 0, none⟩)), some x) :: xs, ⟨rfl, .inr (.inl ⟨A, u, x, rfl, h4, h5, h6, k1⟩)⟩, by rw [List.map_cons, List.map_cons, k2]; rfl⟩
    · obtain ⟨xs, k1, k2⟩ := TC.chain h7
      exact ⟨(.iface 41 (.pointer (some ⟨A, 0, none⟩)), none) :: xs, ⟨rfl, .inr (.inr ⟨A, u, x, rfl, h4, h5, h6, k1⟩)⟩, by rw [List.map_cons, List.map_cons, k2]; rfl⟩
theorem wordOf_eq : ∀ {xs : List Part} {L : List (Bool × Int)}, xs.map (·.2) = L.map (fun p => if p.1 then some p.2 else none) → ∀ s, xs.foldl wordS s = L.foldl (fun s p => if p.1 then (p.2, true) else s) s
  | [], [], _, s => rfl
  | [], (b, x) :: L, h, s => by simp at h
  | y :: xs, [], h, s => by simp at h
  | y :: xs, (b, x) :: L, h, s => by
    rw [List.map_cons, List.map_cons] at h
    have h1 := (List.cons.inj h).1
    have h2 := (List.cons.inj h).2
    rw [List.foldl_cons, List.foldl_cons, wordOf_eq h2]
    congr 1
    unfold wordS
    rw [h1]
    cases b <;> rfl
end SCMk

end Go.Proofs.Ytppdbadigecegaa


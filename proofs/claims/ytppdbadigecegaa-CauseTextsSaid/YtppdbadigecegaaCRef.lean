/- The document's troubles: At, New, Because. -/
import Derived.Test.YtppdbadigecegaaCMk
import Derived.Maps.AppendAt
import Derived.Deep.AppendLies
set_option linter.unusedVariables false
set_option linter.unusedSimpArgs false
namespace Go.Proofs.Ytppdbadigecegaa
section SCRef
open Go.RowKit

section
variable {P : Program} (w : World)
/-- Nothing is appended: the slice stays as it is. -/
theorem run_append_nothing (t ty e : TypeId) (i : TypeInfo) (ht : P.underlying t = some (.slice e)) (hi : P.info? e = some i) (a b : Option Addr) (n c c2 : Nat) (hnc : n ≤ c) :
    (Builtin.append_ #[t, t] ty #[.slice a n c, .slice b 0 c2]).run P w = .ok (.slice a n c) w := by
  cases a <;> cases b <;> simp [Builtin.append_, run_underlying ht, sizeOf, typeInfo, hi, hnc, Builtin.lenOf, Builtin.firstCells, go_sem]
/-- At the operation, for the walk. -/
theorem wpList_append_nothing {ops : Array Oper} {rest : List Oper} {o : Oper} {a : Act} {Q : Exit → Act → World → Prop} (hgd : o.guard = none) (s x : Operand) (t : TypeId)
    (ho : o.op = .call { callee := .builtin .append, args := #[s, x], argTypes := #[t, t] }) (e : TypeId) (i : TypeInfo) (ht : P.underlying t = some (.slice e)) (hi : P.info? e = some i) (a1 b1 : Option Addr) (n c c2 : Nat) (hnc : n ≤ c)
    (hs : a.eval s = .slice a1 n c) (hx : a.eval x = .slice b1 0 c2) (h : wpList P ops Q rest (a.put o.dst (.slice a1 n c)) w) :
    wpList P ops Q (o :: rest) a w := by
  refine wpList_plain hgd fun K hK => ?_
  have hr := run_append_nothing (P := P) w t o.type e i ht hi a1 b1 n c c2 hnc
  unfold Oper.wp execOp
  simp only [ho, resolve, invoke, builtin, Sem.run_bind, Sem.run_pure, Result.andThen_ok, List.map_toArray, List.map_cons, List.map_nil, hs, hx, hr]
  exact hK _ _ h
end

/-- A row of parts, whatever they are. -/
def ErrR (w : World) (v : Value) (n : Nat) : Prop := ∃ xs : List Value, Row w 2 v n xs ∧ ∀ u ∈ xs, u.oneCell' = true
theorem ErrR.below {w w' : World} {v : Value} {n : Nat} (h : ErrR w v n) (hb : Below w.heap.size w w') : ErrR w' v n := by
  obtain ⟨xs, h1, h2⟩ := h
  exact ⟨xs, h1.below hb (Nat.le_refl _), h2⟩
theorem ErrR.nil (w : World) : ErrR w (.slice none 0 0) 0 := ⟨[], Row.nil w 2, fun u hu => by cases hu⟩
def ErrP (w : World) (n : Nat) (r : Ending) (w' : World) : Prop := ∃ v' n', r = .returned v' ∧ ErrR w' v' n' ∧ n' ≤ n ∧ Below w.heap.size w w'

theorem row_news {w : World} {b off n cap : Nat} {xs : List Value} (h : Row w 2 (.slice (some ⟨b, off, none⟩) n cap) n xs) (hn : 0 < n) : b < w.heap.size ∧ ∀ j u, xs[j]? = some u → w.cell? ((⟨b, off, none⟩ : Addr).add j) = some u := by
  obtain ⟨b', off', cap', e, h2, h3, h4, h5⟩ := Row.cons h hn
  simp only [Value.slice.injEq, Option.some.injEq, Addr.mk.injEq] at e
  obtain ⟨⟨rfl, rfl, _⟩, _, _⟩ := e
  refine ⟨h4, fun j u hu => ?_⟩
  have hlt := (List.getElem?_eq_some_iff.1 hu).1
  rw [h.len] at hlt
  rw [Addr.add_lit, h5 j hlt]
  exact hu
theorem own_ge {g n c b : Nat} (e : (Value.slice (some ⟨g, 0, none⟩) n c).ownBlock = some b) : g ≤ b := by
  have : g = b := by simpa [Value.ownBlock] using e
  omega
theorem infoPart : (Try.prog.info? 48).map (fun i => (i.zero, i.size, i.bytes)) = some (some (.agg #[.int .i64 0, .int .i64 0]), 2, 16) := by kernel_rfl
theorem made_part (w : World) (c p : Int) : (w.alloc (.cells #[.int .i64 c, .int .i64 p] 48)).ownsRow w.heap.size 48 2 (.slice (some ⟨w.heap.size, 0, none⟩) 1 1) 1 [.int .i64 c, .int .i64 p] :=
  ⟨rfl, .inr ⟨w.heap.size, 1, #[.int .i64 c, .int .i64 p], rfl, Nat.le_refl _, heap_alloc_new w _, Nat.le_refl _, by simp [maxLen], rfl, rfl⟩⟩

set_option maxHeartbeats 1000000 in
theorem rat_any (p : Int) (v : Value) (n : Nat) (w : World) (h : ErrR w v n) (hn : n ≤ 100) : Calls Try.prog 10 #[v, .int .i64 p] w (ErrP w (n + 1)) := by
  obtain ⟨i, hi, hz, hs, hb⟩ := info_parts infoPart
  obtain ⟨xs, hrow, hone⟩ := h
  obtain ⟨a, cap, rfl, -, -, hcell⟩ := hrow.open
  by_cases h0 : n = 0
  · subst h0
    clear hrow hcell
    go_enter Try.func10, Try.ntmps10
    go_wp2
    go_ret
    exact ⟨_, 0, rfl, ErrR.nil _, by omega, Below.refl _ _⟩
  · obtain ⟨b, off, rfl, hbl, -⟩ := hcell (by omega)
    have hn0 : ((n : Int) == 0) = false := by rw [beq_eq_false_iff_ne]; omega
    have hba := below_alloc w (.cells #[.int .i64 0, .int .i64 p] 48)
    have hown := made_part w 0 p
    have hnews := hid (row_news (hrow.below hba (Nat.le_refl _)) (by omega)).2
    have hlen := hrow.len
    clear hrow hcell
    go_enter Try.func10, Try.ntmps10
    go_wp2_with (at_builtin; go_must (refine wpList_append_own_at _ rfl (.tmp 10) (.tmp 11) 27 rfl w.heap.size 48 i _ 2 16 Try.underlying27 hi hz hs hb rfl (by omega) _ 1 _ rfl hown ⟨b, off, none⟩ n cap xs rfl hlen hnews.out hone (by unfold maxLen; omega) (by omega) hba.size ?_); intro v7 w7 ho7 hg7 _ hat7)
    go_ret
    refine ⟨v7, 1 + n, rfl, ⟨_, Row.of_owns ho7, fun u hu => ?_⟩, by omega, hba.grown hg7 hba.size (fun b e => own_ge e)⟩
    rcases List.mem_append.1 hu with h1 | h1
    · simp at h1; rcases h1 with rfl | rfl <;> rfl
    · exact hone u h1

set_option maxHeartbeats 1000000 in
theorem rnew_zero (w : World) : Calls Try.prog 12 #[.int .i64 0] w fun r w' => r = .returned (.slice none 0 0) ∧ w' = w := by
  go_enter Try.func12, Try.ntmps12
  go_wp2
  go_ret
  exact ⟨rfl, rfl⟩
theorem rnew_some (c : Int) (hc : c ≠ 0) (w : World) : Calls Try.prog 12 #[.int .i64 c] w fun r w' => r = .returned (.slice (some ⟨w.heap.size, 0, none⟩) 1 1) ∧ w' = w.alloc (.cells #[.int .i64 c, .int .i64 0] 48) := by
  have hh : ¬ c = 0 := hc
  go_enter Try.func12, Try.ntmps12
  go_wp2
  go_ret
  exact ⟨rfl, rfl⟩
set_option maxHeartbeats 1000000 in
theorem rbecause_any (c : Int) (v : Value) (n : Nat) (w : World) (h : ErrR w v n) (hn : n ≤ 100) : Calls Try.prog 11 #[.int .i64 c, v] w (ErrP w (n + 1)) := by
  obtain ⟨i, hi, hz, hs, hb⟩ := info_parts infoPart
  obtain ⟨xs, hrow, hone⟩ := h
  obtain ⟨a, cap, rfl, -, -, hcell⟩ := hrow.open
  have hlen := hrow.len
  by_cases hc : c = 0
  · subst hc
    by_cases h0 : n = 0
    · subst h0
      clear hrow hcell
      go_enter Try.func11, Try.ntmps11
      go_wp2_with (first
        | (go_at_call 12; refine (rnew_zero _).mono ?_; rintro r1 wz ⟨rfl, rfl⟩)
        | (at_builtin; go_must (refine wpList_append_nothing _ rfl (.tmp 6) (.tmp 7) 27 rfl 48 i Try.underlying27 hi none a 0 0 cap (Nat.le_refl _) rfl rfl ?_)))
      go_ret
      exact ⟨_, 0, rfl, ErrR.nil _, by omega, Below.refl _ _⟩
    · obtain ⟨b, off, rfl, hbl, -⟩ := hcell (by omega)
      have hnews := hid (row_news hrow (by omega)).2
      clear hrow hcell
      go_enter Try.func11, Try.ntmps11
      go_wp2_with (first
        | (go_at_call 12; refine (rnew_zero _).mono ?_; rintro r1 wz ⟨rfl, rfl⟩)
        | (at_builtin; go_must (refine wpList_append_own_at _ rfl (.tmp 6) (.tmp 7) 27 rfl wz.heap.size 48 i _ 2 16 Try.underlying27 hi hz hs hb rfl (by omega) _ 0 _ rfl (own_nil wz wz.heap.size _ _) ⟨b, off, none⟩ n cap xs rfl hlen hnews.out hone (by unfold maxLen; omega) (by omega) (Nat.le_refl _) ?_); intro v7 w7 ho7 hg7 _ hat7))
      go_ret
      refine ⟨v7, 0 + n, rfl, ⟨_, Row.of_owns ho7, fun u hu => hone u (by simpa using hu)⟩, by omega, (Below.refl _ _).grown hg7 (Nat.le_refl _) (fun b e => by cases e)⟩
  · have hba := below_alloc w (.cells #[.int .i64 c, .int .i64 0] 48)
    have hown := made_part w c 0
    have hnew := rnew_some c hc
    have hone2 : ∀ u ∈ [Value.int .i64 c, .int .i64 0], u.oneCell' = true := fun u h1 => by simp at h1; rcases h1 with rfl | rfl <;> rfl
    by_cases h0 : n = 0
    · subst h0
      have Hown := hid hown
      clear hrow hcell
      go_enter Try.func11, Try.ntmps11
      go_wp2_with (first
        | (go_at_call 12; refine (hnew _).mono ?_; rintro r1 wz ⟨rfl, rfl⟩)
        | (at_builtin; go_must (refine wpList_append_nothing _ rfl (.tmp 6) (.tmp 7) 27 rfl 48 i Try.underlying27 hi (some ⟨w.heap.size, 0, none⟩) a 1 1 cap (Nat.le_refl _) rfl rfl ?_)))
      go_ret
      exact ⟨_, 1, rfl, ⟨_, Row.of_owns Hown.out, hone2⟩, by omega, hba⟩
    · obtain ⟨b, off, rfl, hbl, -⟩ := hcell (by omega)
      have hnews := hid (row_news (hrow.below hba (Nat.le_refl _)) (by omega)).2
      clear hrow hcell
      go_enter Try.func11, Try.ntmps11
      go_wp2_with (first
        | (go_at_call 12; refine (hnew _).mono ?_; rintro r1 wz ⟨rfl, rfl⟩)
        | (at_builtin; go_must (refine wpList_append_own_at _ rfl (.tmp 6) (.tmp 7) 27 rfl w.heap.size 48 i _ 2 16 Try.underlying27 hi hz hs hb rfl (by omega) _ 1 _ rfl hown ⟨b, off, none⟩ n cap xs rfl hlen hnews.out hone (by unfold maxLen; omega) (by omega) hba.size ?_); intro v7 w7 ho7 hg7 _ hat7))
      go_ret
      refine ⟨v7, 1 + n, rfl, ⟨_, Row.of_owns ho7, fun u hu => ?_⟩, by omega, hba.grown hg7 hba.size (fun b e => own_ge e)⟩
      rcases List.mem_append.1 hu with h1 | h1
      · exact hone2 u h1
      · exact hone u h1
end SCRef

end Go.Proofs.Ytppdbadigecegaa


/- look.Start, Next and Told of any walk. -/
import Derived.Test.YtblbhlgihlgncaaDoorWkG
import Derived.Test.YtblbhlgihlgncaaDoorWkR
import Derived.Deep.AppendLies
set_option linter.unusedVariables false
set_option linter.unusedSimpArgs false
namespace Go.Proofs.YtblbhlgihlgncaaDoor
section SWkS
open Go.RowKit

section
variable {P : Program} (w : World)
/-- Nothing is appended: the slice stays as it is. -/
theorem run_append_nothing (t ty e : TypeId) (i : TypeInfo) (ht : P.underlying t = some (.slice e)) (hi : P.info? e = some i) (a b : Option Addr) (n c c2 : Nat) (hnc : n ≤ c) :
    (Builtin.append_ #[t, t] ty #[.slice a n c, .slice b 0 c2]).run P w = .ok (.slice a n c) w := by
  cases a <;> cases b <;> simp [Builtin.append_, run_underlying ht, sizeOf, typeInfo, hi, hnc, Builtin.lenOf, Builtin.firstCells, go_sem]
/-- At the operation, for the walk. -/
theorem wpList_append_nothing {ops : Array Oper} {rest : List Oper} {o : Oper} {a : Act} {Q : Exit → Act → World → Prop} (hgd : o.guard = none) (s x : Operand) (t : TypeId)
    (ho : o.op = .call { callee := .builtin .append, args := #[s, x], argTypes := #[t, t] }) (e : TypeId) (i : TypeInfo) (ht : P.underlying t = some (.slice e)) (hi : P.info? e = some i) (a1 b1 : Option Addr) (n c c2 : Nat) (hnc : n ≤ c)
    (hs : a.eval s = .slice a1 n c) (hx : a.eval x = .slice b1 0 c2) (h : wpList P ops Q rest (a.put o.dst (.slice a1 n c)) w) :
    wpList P ops Q (o :: rest) a w := by
  refine wpList_plain hgd fun K hK => ?_
  have hr := run_append_nothing (P := P) w t o.type e i ht hi a1 b1 n c c2 hnc
  unfold Oper.wp execOp
  simp only [ho, resolve, invoke, builtin, Sem.run_bind, Sem.run_pure, Result.andThen_ok, List.map_toArray, List.map_cons, List.map_nil, hs, hx, hr]
  exact hK _ _ h
end

theorem new_errV (c : Int) (w : World) : Calls Tryd.prog 16 #[.int .i64 c] w fun r w' => r = .returned (ErrV c) ∧ w' = w := by
  by_cases h : c = 0
  · subst h; exact new_zero w
  · unfold ErrV; rw [if_neg h]; exact new_any c h w

theorem next_idle (w : World) (B : Nat) (c3 : w.cell? ⟨B, 3, none⟩ = some (.int .i64 (-1))) : Calls Tryd.prog 22 #[.pointer (some ⟨B, 0, none⟩)] w fun r w' => r = .returned (.tuple #[.int .i64 0, .bool false]) ∧ w' = w := by
  go_enter Tryd.func22, Tryd.ntmps22
  go_wp2
  go_returns
  exact ⟨rfl, rfl⟩
theorem told_any (w : World) (B : Nat) (x c : Int) (c3 : w.cell? ⟨B, 3, none⟩ = some (.int .i64 (-1))) (c5 : w.cell? ⟨B, 5, none⟩ = some (.int .u64 x)) (c6 : w.cell? ⟨B, 6, none⟩ = some (.int .i64 c)) :
    Calls Tryd.prog 24 #[.pointer (some ⟨B, 0, none⟩)] w fun r w' => r = .returned (.tuple #[.int .u64 x, ErrV c]) ∧ Below w.heap.size w w' := by
  have hnew := new_errV c
  go_enter Tryd.func24, Tryd.ntmps24
  go_wp2_with fail
  go_quiet ((go_at_call 16; exact Calls.quiet_of_same (hnew _)))
  go_wp2_with fail
  go_returns
  exact ⟨rfl, below_drewN _ _ _⟩
/-- What Start answers: a walk whose machine has entered the struct. -/
def StartQ (w : World) (s : Schema) (sv : Value) (l : List Int) (g : WSt) (r : Ending) (w' : World) : Prop :=
  ∃ B b c, r = .returned (.pointer (some ⟨B, 0, none⟩)) ∧ w.heap.size ≤ B ∧ b ≠ B ∧ b < w'.heap.size ∧ Below w.heap.size w w' ∧ WkS w' B sv b 0 c l g ∧ WkD w' B s sv b 0 c l

theorem ints_news {w w1 : World} {b off n : Nat} {l : List Int} (hn : l.length = n) (hb : b < w.heap.size) (hc : ∀ j, j < l.length → w.cell? ⟨b, off + j, none⟩ = some (.int .i64 (l.getD j 0))) (hb1 : Below w.heap.size w w1) (o : Obj) :
    ∀ (j : Nat) (u : Value), (l.map (Value.int .i64))[j]? = some u → (w1.alloc o).cell? ((⟨b, off, none⟩ : Addr).add j) = some u := by
  intro j u hu
  have hlt : j < l.length := by have := (List.getElem?_eq_some_iff.1 hu).1; simpa using this
  have e1 : (w1.alloc o).cell? ⟨b, off + j, none⟩ = some (.int .i64 (l.getD j 0)) := ((below_alloc w1 o).cell (p := ⟨b, off + j, none⟩) (Nat.lt_of_lt_of_le hb hb1.size)).trans ((hb1.cell (p := ⟨b, off + j, none⟩) hb).trans (hc j hlt))
  rw [List.getElem?_map, List.getElem?_eq_getElem hlt] at hu
  rw [List.getD_eq_getElem?_getD, List.getElem?_eq_getElem hlt] at e1
  rw [Addr.add_lit]
  exact e1.trans hu

section
variable (s : Schema) (sa : Option Addr) (sn sc : Nat) (t : Int) (l : List Int) (w : World) (hs : Sch w (.slice sa sn sc) s) (hr : rightB s = true) (h0 : 0 ≤ t) (h1 : t < sn) (hbd : ∀ j, -1000000 ≤ l.getD j 0 ∧ l.getD j 0 ≤ 1000000)

/-- Its box is made: what is left. -/
theorem start_rest (w3 : World) (g cap : Nat) (hB3 : Below w.heap.size w w3) (hs : Sch w (.slice sa sn sc) s) (hg : g < w3.heap.size) (hgw : w.heap.size ≤ g) (hcap : l.length ≤ cap) (hc : ∀ j, j < l.length → w3.cell? ⟨g, 0 + j, none⟩ = some (.int .i64 (l.getD j 0))) (hbd : ∀ j, -1000000 ≤ l.getD j 0 ∧ l.getD j 0 ≤ 1000000) :
    let W := w3.alloc (.cells #[.slice sa sn sc, .int .i64 0, .slice (some ⟨g, 0, none⟩) l.length cap, .int .i64 0, .int .i64 0, .int .u64 0, .int .i64 0] 103)
    WkS W w3.heap.size (.slice sa sn sc) g 0 cap l w0S ∧ WkD W w3.heap.size s (.slice sa sn sc) g 0 cap l ∧ Below w.heap.size w W ∧ g ≠ w3.heap.size ∧ g < W.heap.size ∧ w.heap.size ≤ w3.heap.size := by
  intro W
  have hbW : Below w.heap.size w W := hB3.alloc hB3.size _
  have hlt : g < W.heap.size := by show g < (w3.alloc _).heap.size; simp; omega
  refine ⟨?_, ⟨fun W' hW' => ?_, fun W' hW' j hj => ?_, hcap, hbd⟩, hbW, by omega, hlt, hB3.size⟩
  · refine WK.mk ?_ ?_ ?_ ?_ ?_ ?_ ?_ ?_ (fun j => ?_) <;> simp [W, w0S, go_sem] <;> rfl
  · exact hs.below (hbW.grown hW' hbW.size (fun k hk => by obtain rfl := Option.some.inj hk; exact hB3.size)) (Nat.le_refl _)
  · have e : W.cell? ⟨g, 0 + j, none⟩ = some (.int .i64 (l.getD j 0)) := ((below_alloc w3 _).cell (p := ⟨g, 0 + j, none⟩) hg).trans (hc j hj)
    exact hW'.cell e (fun e2 => by have := Option.some.inj e2; simp only at this; omega)

set_option maxRecDepth 100000 in
set_option maxHeartbeats 4000000 in
theorem startq_some (p0 : Int) (rest : List Int) (hl : l = p0 :: rest) (b off c : Nat) (hs : Sch w (.slice sa sn sc) s) (hr : rightB s = true) (h0 : 0 ≤ t) (h1 : t < sn) (hbd : ∀ j, -1000000 ≤ l.getD j 0 ∧ l.getD j 0 ≤ 1000000) (hb : b < w.heap.size) (hcm : c ≤ maxLen) (hlc : l.length ≤ c) (hlm : l.length ≤ 100) (hcell : ∀ j, j < l.length → w.cell? ⟨b, off + j, none⟩ = some (.int .i64 (l.getD j 0))) :
    Calls Tryd.prog 21 #[.slice sa sn sc, .int .i64 t, .int .i64 1, .slice (some ⟨b, off, none⟩) l.length c] w (StartQ w s (.slice sa sn sc) l (enterV s l w0S t 1)) := by
  have hcheck0 := check_any s (.slice sa sn sc) w hs
  rw [hr] at hcheck0
  have hcheck : Calls Tryd.prog 30 #[.slice sa sn sc] w fun r w' => r = .returned .nilIface ∧ Below w.heap.size w w' := hcheck0
  have Hs := hid hs
  have h0d : decide (t < 0) = false := decide_eq_false (by omega)
  have h1d : decide ((sn : Int) ≤ t) = false := decide_eq_false (by omega)
  have hpos : 0 < l.length := by rw [hl]; simp
  have Hbd := hid hbd
  have Hc := hid hcell
  obtain ⟨n, hn⟩ : ∃ n, l.length = n := ⟨_, rfl⟩
  have Hn := hid hn
  rw [hn] at hpos hlc hlm ⊢
  clear hs hr hcheck0 hbd hl hcell hn
  obtain ⟨i0, hi0, hz0, hz1, hz2⟩ := info_parts infoInt
  go_enter Tryd.func21, Tryd.ntmps21
  go_wp2_with (first
    | (go_at_call 30; refine hcheck.mono ?_; rintro r1 w1 ⟨rfl, hb1⟩; have Hn1 := hid (ints_news Hn.out hb Hc.out hb1 (.cells #[] 3)))
    | (at_builtin; go_must (refine wpList_append_lies (w := w1.alloc (.cells #[] 3)) rfl (.tmp 24) (.tmp 25) 40 rfl w1.heap.size 3 i0 _ 1 8 Tryd.underlying40 hi0 hz0 hz1 hz2 rfl (by omega) (.slice (some ⟨w1.heap.size, 0, none⟩) 0 0) 0 [] rfl (World.ownsRow_made w1 #[] 0 (Nat.le_refl _) (by simp [maxLen]) rfl) ⟨b, off, none⟩ n c (l.map (Value.int .i64)) rfl (by rw [List.length_map, Hn.out]; omega) Hn1.out (by simp [Value.oneCell']) hpos (by unfold maxLen; omega) (by omega) (by simp) (w1.heap.size + 1) (by simp) ?_); intro g cap w3 h6 h7 h8 h9))
  have hB3 : Below w.heap.size w w3 := (hb1.alloc hb1.size (.cells #[] 3)).grown h7 (by simp; have := hb1.size; omega) (fun k hk => by
    have : k = w1.heap.size := by simpa [Value.ownBlock] using hk.symm
    subst this; exact hb1.size)
  have hgw : w.heap.size ≤ g := by
    have := hb1.size
    rcases h8 with h8 | h8
    · have : w1.heap.size = g := by simpa [Value.ownBlock] using h8
      omega
    · omega
  have hcap : l.length ≤ cap := by
    have := Hn.out
    rcases h6.2 with ⟨e, _⟩ | ⟨g', cap', cur, e, _, _, hn, _⟩
    · cases e
    · obtain ⟨_, _, rfl⟩ := Value.slice.inj e
      omega
  have hcells : ∀ j, j < l.length → w3.cell? ⟨g, 0 + j, none⟩ = some (.int .i64 (l.getD j 0)) := fun j hj => by
    have := h6.cellAt j (by have := Hn.out; omega)
    rw [Nat.zero_add, this, List.nil_append, List.getElem?_map, List.getD_eq_getElem?_getD, List.getElem?_eq_getElem hj]; rfl
  have hrest := start_rest s sa sn sc l w w3 g cap hB3 Hs.out h9 hgw hcap hcells Hbd.out
  rw [Hn.out] at hrest
  simp only at hrest
  obtain ⟨hk4, hD, hbW, hne, hglt, hwD⟩ := hrest
  have henter := enter_all (g := w0S) t 1 hk4 hD hne (by omega)
  generalize w3.alloc (.cells #[.slice sa sn sc, .int .i64 0, .slice (some ⟨g, 0, none⟩) n cap, .int .i64 0, .int .i64 0, .int .u64 0, .int .i64 0] 103) = W at *
  generalize w3.heap.size = D at *
  clear h6 h7 h8 hcells hB3
  ((refine henter.mono ?_); rintro r2 w4 ⟨rfl, hk5, hg5⟩)
  go_wp2_with fail
  go_ret
  exact ⟨D, g, cap, rfl, hwD, hne, Nat.lt_of_lt_of_le hglt hg5.size, hbW.grown hg5 hbW.size (fun k hk' => by obtain rfl := Option.some.inj hk'; exact hwD), hk5, hD.next hg5⟩

set_option maxRecDepth 100000 in
set_option maxHeartbeats 4000000 in
theorem startq_none (hl : l = []) (a : Option Addr) (c : Nat) (hs : Sch w (.slice sa sn sc) s) (hr : rightB s = true) (h0 : 0 ≤ t) (h1 : t < sn) :
    Calls Tryd.prog 21 #[.slice sa sn sc, .int .i64 t, .int .i64 1, .slice a 0 c] w (StartQ w s (.slice sa sn sc) l (enterV s l w0S t 1)) := by
  have hcheck0 := check_any s (.slice sa sn sc) w hs
  rw [hr] at hcheck0
  have hcheck : Calls Tryd.prog 30 #[.slice sa sn sc] w fun r w' => r = .returned .nilIface ∧ Below w.heap.size w w' := hcheck0
  have Hs := hid hs
  have h0d : decide (t < 0) = false := decide_eq_false (by omega)
  have h1d : decide ((sn : Int) ≤ t) = false := decide_eq_false (by omega)
  clear hs hr hcheck0
  obtain ⟨i0, hi0, hz0, hz1, hz2⟩ := info_parts infoInt
  have Hl := hid hl
  clear hl
  go_enter Tryd.func21, Tryd.ntmps21
  go_wp2_with (first
    | (go_at_call 30; refine hcheck.mono ?_; rintro r1 w1 ⟨rfl, hb1⟩)
    | (at_builtin; go_must (refine wpList_append_nothing _ rfl (.tmp 24) (.tmp 25) 40 rfl 3 i0 Tryd.underlying40 hi0 (some ⟨w1.heap.size, 0, none⟩) a 0 0 c (Nat.le_refl _) rfl rfl ?_)))
  have hl0 : l.length = 0 := by rw [Hl.out]; rfl
  have hrest := start_rest s sa sn sc l w (w1.alloc (.cells #[] 3)) w1.heap.size 0 (hb1.alloc hb1.size (.cells #[] 3)) Hs.out (by simp) hb1.size (by omega) (fun j hj => absurd hj (by omega)) (fun j => by rw [Hl.out]; simp)
  rw [hl0, show (w1.alloc (.cells #[] 3)).heap.size = w1.heap.size + 1 by simp] at hrest
  simp only at hrest
  obtain ⟨hk4, hD, hbW, hne, hglt, hwD⟩ := hrest
  have henter := enter_all (g := w0S) t 1 hk4 hD hne (by omega)
  generalize (w1.alloc (.cells #[] 3)).alloc (.cells #[.slice sa sn sc, .int .i64 0, .slice (some ⟨w1.heap.size, 0, none⟩) 0 0, .int .i64 0, .int .i64 0, .int .u64 0, .int .i64 0] 103) = W at *
  generalize w1.heap.size + 1 = D at *
  generalize w1.heap.size = g at *
  ((refine henter.mono ?_); rintro r2 w4 ⟨rfl, hk5, hg5⟩)
  go_wp2_with fail
  go_ret
  exact ⟨D, g, 0, rfl, hwD, hne, Nat.lt_of_lt_of_le hglt hg5.size, hbW.grown hg5 hbW.size (fun k hk' => by obtain rfl := Option.some.inj hk'; exact hwD), hk5, hD.next hg5⟩

/-- look.Start, of right words' schema. -/
theorem startq_any (pv : Value) (hs : Sch w (.slice sa sn sc) s) (hr : rightB s = true) (h0 : 0 ≤ t) (h1 : t < sn) (hp : Ints w pv l) (hlm : l.length ≤ 100) (hbd : ∀ j, -1000000 ≤ l.getD j 0 ∧ l.getD j 0 ≤ 1000000) :
    Calls Tryd.prog 21 #[.slice sa sn sc, .int .i64 t, .int .i64 1, pv] w (StartQ w s (.slice sa sn sc) l (enterV s l w0S t 1)) := by
  obtain ⟨a, c, rfl, hlc, hcm, hcell⟩ := Row.open hp
  by_cases hl : l = []
  · have := startq_none s sa sn sc t l w hl a c hs hr h0 h1
    rw [show l.length = 0 by rw [hl]; rfl]
    exact this
  · obtain ⟨p0, rest, he⟩ := List.exists_cons_of_ne_nil hl
    obtain ⟨b, off, rfl, hb, hc⟩ := hcell (List.length_pos_iff.2 hl)
    refine startq_some s sa sn sc t l w p0 rest he b off c hs hr h0 h1 hbd hb hcm hlc hlm (fun j hj => ?_)
    rw [hc j (by omega), List.getElem?_map, List.getD_eq_getElem?_getD, List.getElem?_eq_getElem hj]
    rfl
end
end SWkS

end Go.Proofs.YtblbhlgihlgncaaDoor


/- valid's look: all words; what ends it is caught. -/
import Derived.Test.YtblbhlgihlgncaaDoorVVisit
import Derived.Defers
import Derived.Recover
set_option linter.unusedVariables false
set_option linter.unusedSimpArgs false
namespace Go.Proofs.YtblbhlgihlgncaaDoor
section SVRun
open Go.RowKit

/-- A trouble at a word, as it lies in memory. -/
def AtB (w : World) (A : Nat) (e p : Int) : Prop := w.heap[A]? = some (.cells #[.iface 37 (.int .i64 e), .int .i64 p] 167 (0, 0))
theorem cat_any (e p : Int) (w : World) : Calls Tryd.prog 90 #[.iface 37 (.int .i64 e), .int .i64 p] w
    fun r w' => r = .returned (.iface 165 (.pointer (some ⟨w.heap.size, 0, none⟩))) ∧ w' = w.alloc (.cells #[.iface 37 (.int .i64 e), .int .i64 p] 167) := by
  go_enter Tryd.func90, Tryd.ntmps90
  go_wp2
  go_ret
  exact ⟨rfl, rfl⟩
theorem AtB.new (w : World) (e p : Int) : AtB (w.alloc (.cells #[.iface 37 (.int .i64 e), .int .i64 p] 167)) w.heap.size e p := by
  unfold AtB
  show (w.heap.push _)[w.heap.size]? = _
  simp

/-- What the region reads that makes an error of a trouble. -/
def VR3 (n : Nat) (e p : Int) (W : World) : Prop := W.cell? ⟨n, 0, none⟩ = some (.int .i64 e) ∧ W.cell? ⟨n, 1, none⟩ = some (.int .i64 p) ∧ n < W.heap.size
theorem VR3.new {e p : Int} (w : World) : VR3 w.heap.size e p ((w.alloc (.cells #[.int .i64 e, .int .i64 p] 161)).drewN 1) := by
  obtain ⟨w1, hw, hb, hlt, hbox⟩ := boxed w #[.int .i64 e, .int .i64 p] 161
  rw [hw]
  exact ⟨hbox 0, hbox 1, hlt⟩
theorem VR3.alloc {n : Nat} {e p : Int} {W : World} (h : VR3 n e p W) (o : Obj) : VR3 n e p (W.alloc o) :=
  ⟨(World.cell?_alloc_lt _ _ ⟨n, 0, none⟩ h.2.2).trans h.1, (World.cell?_alloc_lt _ _ ⟨n, 1, none⟩ h.2.2).trans h.2.1, by have := h.2.2; simp; omega⟩
theorem VR3.set {w : World} {e p : Int} (a : Addr) (v : Value) (o : Obj) : VR3 w.heap.size e p ((((w.setCell a v).alloc (.cells #[.int .i64 e, .int .i64 p] 161)).alloc o).drewN 1) := by
  have h := VR3.alloc (VR3.new (e := e) (p := p) (w.setCell a v)) o
  rw [show (w.setCell a v).heap.size = w.heap.size from by simp [World.setCell]] at h
  exact h

theorem tmps20 (a x y : Value) : (#[a] ++ (((Array.replicate 19 undef).setIfInBounds 3 x).setIfInBounds 0 y)) = #[a, y, undef, undef, x, undef, undef, undef, undef, undef, undef, undef, undef, undef, undef, undef, undef, undef, undef, undef] := by
  apply Array.toList_inj.1
  simp [List.replicate]
theorem catch_facts {w : World} {E : Nat} {e p : Int} {old : Value} (hc : w.cell? ⟨E, 0, none⟩ = some old) (hlt : E < w.heap.size) (v : Value) (o : Obj) :
    AtB ((((w.setCell ⟨E, 0, none⟩ v).alloc o).alloc (.cells #[.iface 37 (.int .i64 e), .int .i64 p] 167)).drewN 1) (w.heap.size + 1) e p ∧
    ((((w.setCell ⟨E, 0, none⟩ v).alloc o).alloc (.cells #[.iface 37 (.int .i64 e), .int .i64 p] 167)).drewN 1).cell? ⟨E, 0, none⟩ = some v ∧
    w.grownBy ((((w.setCell ⟨E, 0, none⟩ v).alloc o).alloc (.cells #[.iface 37 (.int .i64 e), .int .i64 p] 167)).drewN 1) (some E) := by
  have hg := grown_set (grown_refl w (some E)) (p := ⟨E, 0, none⟩) (.inr rfl) v
  have hs := World.cell?_setCell_same w ⟨E, 0, none⟩ v hc
  have hz : (w.setCell ⟨E, 0, none⟩ v).heap.size = w.heap.size := by simp [World.setCell]
  generalize w.setCell ⟨E, 0, none⟩ v = w1 at *
  have hb := ((below_alloc w1 o).alloc (B := w1.heap.size) (by simp) (.cells #[.iface 37 (.int .i64 e), .int .i64 p] 167)).trans (below_drewN _ _ 1)
  refine ⟨?_, (hb.cell (p := ⟨E, 0, none⟩) (show E < w1.heap.size by omega)).trans hs, grown_below hg hb⟩
  have h := AtB.new (w1.alloc o) e p
  rw [show (w1.alloc o).heap.size = w.heap.size + 1 from by simp [hz]] at h
  exact h

set_option maxRecDepth 100000 in
set_option maxHeartbeats 2000000 in
/-- Nothing is to be caught. -/
theorem vcatch_idle (E : Nat) (w : World) :
    CallsD Tryd.prog 89 #[.pointer (some ⟨E, 0, none⟩)] .returning w fun r u' w' => r = .returned (.tuple #[]) ∧ u' = .returning ∧ Below w.heap.size w w' := by
  refine callsD_of_wpS Tryd.func89 rfl fun c₀ cs hu => ?_
  apply wpS_seq
  apply wpS_region
  simp [wpOpsS, go_sem, recoverD, hu, Tryd.ntmps89, Exit.thenS]
  refine wpS_of_wp ?_
  rw [tmps20]
  have hta : ∀ (i : TypeId) w, (Instr.typeAssert .nilIface i 161 true).run Tryd.prog w = .ok (.tuple #[.agg #[.int .i64 0, .int .i64 0], .bool false]) w := fun i w => by kernel_rfl
  go_wp2_with fail
  cases c₀
  simp only at hu
  subst hu
  exact ⟨rfl, _, rfl, _, by simp [results, Tryd.results89, go_sem], rfl, rfl, below_alloc _ _⟩

set_option maxRecDepth 100000 in
set_option maxHeartbeats 2000000 in
/-- A trouble is caught: it is an error then. -/
theorem vcatch_panic (E : Nat) (e p : Int) (he : e ≠ 0) (old : Value) (older : List PanicEntry) (w : World) (hc : w.cell? ⟨E, 0, none⟩ = some old) (hz : w.frozen? ⟨E, 0, none⟩ = false) :
    CallsD Tryd.prog 89 #[.pointer (some ⟨E, 0, none⟩)] (.panicking ({ v := TrV e p, recovered := false } :: older)) w fun r u' w' =>
      r = .returned (.tuple #[]) ∧ u' = .panicking ({ v := TrV e p, recovered := true } :: older) ∧
        ∃ A, AtB w' A e p ∧ w'.cell? ⟨E, 0, none⟩ = some (.iface 165 (.pointer (some ⟨A, 0, none⟩))) ∧ w.grownBy w' (some E) := by
  refine callsD_of_wpS Tryd.func89 rfl fun c₀ cs hu => ?_
  apply wpS_seq
  apply wpS_region
  simp [wpOpsS, go_sem, recoverD, hu, Tryd.ntmps89, Exit.thenS]
  refine wpS_of_wp ?_
  rw [tmps20]
  unfold TrV
  have hta : ∀ (i : TypeId) w, (Instr.typeAssert (.iface 161 (.agg #[.int .i64 e, .int .i64 p])) i 161 true).run Tryd.prog w = .ok (.tuple #[.agg #[.int .i64 e, .int .i64 p], .bool true]) w := fun i w => by kernel_rfl
  go_wp2_with fail
  have hlt : E < w.heap.size := by
    rcases Nat.lt_or_ge E w.heap.size with h | h
    · exact h
    · simp [World.cell?, Array.getElem?_eq_none h] at hc
  have hEn : E ≠ w.heap.size := Nat.ne_of_lt hlt
  have hc2 : ∀ o1 o2, ((w.alloc o1).alloc o2).cell? ⟨E, 0, none⟩ = some old := fun o1 o2 => (World.cell?_alloc_lt _ _ ⟨E, 0, none⟩ (by simp; omega)).trans ((World.cell?_alloc_lt _ _ ⟨E, 0, none⟩ hlt).trans hc)
  have hz2 : ∀ o1 o2, ((w.alloc o1).alloc o2).frozen? ⟨E, 0, none⟩ = false := fun o1 o2 => (World.frozen?_alloc_old _ _ ⟨E, 0, none⟩ (by simp; omega)).trans ((World.frozen?_alloc_old _ _ ⟨E, 0, none⟩ hEn).trans hz)
  refine wp_region_held_drew (S := (fun W => W.cell? ⟨w.heap.size, 0, none⟩ = some (.int .i64 e) ∧ W.cell? ⟨w.heap.size, 1, none⟩ = some (.int .i64 p) ∧ w.heap.size < W.heap.size)) (by kernel_rfl) ?_ (fun hHeld => ?_)
  · exact VR3.new (e := e) (p := p) w
  refine wpAnyH_take (i := 0) (oi := { dst := some 11, op := Op.fieldAddr 161 (Operand.tmp 2) 0, type := 0, pos := "valid.go:101", after := #[], guard := none }) (v := ?vc0) rfl (by kernel_rfl) (by kernel_rfl) (by kernel_rfl) (fun _ _ _ h => h) (Or.inl ⟨by rfl, ?hyc0⟩) (by assumption) ?restc0
  case hyc0 => first | (intro w hSw; (try dsimp only at hSw); go_simp; done) | (intro w hSw; (try dsimp only at hSw); go_simp; with_reducible rfl)
  try simp only [Act.put, List.setIfInBounds_toArray, List.set_cons_zero, List.set_cons_succ]
  refine wpAnyH_take (i := 1) (oi := { dst := some 12, op := Op.load 37 (Operand.tmp 11), type := 37, pos := "valid.go:101", after := #[{ on := 0, ground := Ground.data }], guard := none }) (v := ?vc1) rfl (by kernel_rfl) (by kernel_rfl) (by kernel_rfl) (fun _ _ _ h => h) (Or.inl ⟨by rfl, ?hyc1⟩) (by assumption) ?restc1
  case hyc1 => first | (intro w hSw; (try dsimp only at hSw); go_simp; done) | (intro w hSw; (try dsimp only at hSw); go_simp; with_reducible rfl)
  try simp only [Act.put, List.setIfInBounds_toArray, List.set_cons_zero, List.set_cons_succ]
  refine wpAnyH_take (i := 3) (oi := { dst := some 14, op := Op.fieldAddr 161 (Operand.tmp 2) 1, type := 0, pos := "valid.go:101", after := #[], guard := none }) (v := ?vc3) rfl (by kernel_rfl) (by kernel_rfl) (by kernel_rfl) (fun _ _ _ h => h) (Or.inl ⟨by rfl, ?hyc3⟩) (by assumption) ?restc3
  case hyc3 => first | (intro w hSw; (try dsimp only at hSw); go_simp; done) | (intro w hSw; (try dsimp only at hSw); go_simp; with_reducible rfl)
  try simp only [Act.put, List.setIfInBounds_toArray, List.set_cons_zero, List.set_cons_succ]
  refine wpAnyH_take (i := 4) (oi := { dst := some 15, op := Op.load 3 (Operand.tmp 14), type := 3, pos := "valid.go:101", after := #[{ on := 3, ground := Ground.data }], guard := none }) (v := ?vc4) rfl (by kernel_rfl) (by kernel_rfl) (by kernel_rfl) (fun _ _ _ h => h) (Or.inl ⟨by rfl, ?hyc4⟩) (by assumption) ?restc4
  case hyc4 => first | (intro w hSw; (try dsimp only at hSw); go_simp; done) | (intro w hSw; (try dsimp only at hSw); go_simp; with_reducible rfl)
  try simp only [Act.put, List.setIfInBounds_toArray, List.set_cons_zero, List.set_cons_succ]
  refine wpAnyH_ready (rs := [2]) (by kernel_rfl) (by simp) ?_
  refine AllReadyH.cons (o := { dst := some 13, op := Op.call { callee := Callee.value (Operand.func 16), args := #[Operand.tmp 12], argTypes := #[37] }, type := 34, pos := "valid.go:101", after := #[{ on := 1, ground := Ground.data }], guard := none }) rfl (fun K hK => ?_) AllReadyH.nil
  go_simp
  ((refine (new_any e he _).mono ?_); rintro rr5 wr5 ⟨rfl, rfl⟩)
  refine hK.out _ _ ?_ (fun hHeld => ?_)
  · exact hHeld
  clear hK K
  try simp only [Act.put, List.setIfInBounds_toArray, List.set_cons_zero, List.set_cons_succ]
  refine wpAnyH_ready (rs := [5]) (by kernel_rfl) (by simp) ?_
  refine AllReadyH.cons (o := { dst := some 16, op := Op.call { callee := Callee.value (Operand.func 90), args := #[Operand.tmp 13, Operand.tmp 15], argTypes := #[34, 3] }, type := 34, pos := "valid.go:101", after := #[{ on := 2, ground := Ground.data }, { on := 4, ground := Ground.data }, { on := 2, ground := Ground.chain }], guard := none }) rfl (fun K hK => ?_) AllReadyH.nil
  go_simp
  ((refine (cat_any e p _).mono ?_); rintro rr6 wr6 ⟨rfl, rfl⟩)
  refine hK.out _ _ ?_ (fun hHeld => ?_)
  · exact VR3.alloc hHeld _
  clear hK K
  try simp only [Act.put, List.setIfInBounds_toArray, List.set_cons_zero, List.set_cons_succ]
  refine wpAnyH_ready (rs := [6]) (by kernel_rfl) (by simp) ?_
  refine AllReadyH.cons (o := { dst := none, op := Op.store 34 (Operand.tmp 0) (Operand.tmp 16), type := 0, pos := "valid.go:101", after := #[{ on := 5, ground := Ground.data }, { on := 5, ground := Ground.chain }, { on := 0, ground := Ground.phase }, { on := 1, ground := Ground.phase }, { on := 2, ground := Ground.phase }, { on := 3, ground := Ground.phase }, { on := 4, ground := Ground.phase }, { on := 5, ground := Ground.phase }], guard := none }) rfl (fun K hK => ?_) AllReadyH.nil
  go_simp
  refine hK.out _ _ ?_ (fun hHeld => ?_)
  · exact VR3.set _ _ _
  clear hK K
  try simp only [Act.put, List.setIfInBounds_toArray, List.set_cons_zero, List.set_cons_succ]
  refine wpAnyH_done (by kernel_rfl) ?_ _
  go_wp2_with fail
  cases c₀
  simp only at hu
  subst hu
  exact ⟨rfl, _, rfl, _, by simp [results, Tryd.results89, go_sem], rfl, rfl, w.heap.size + 1, catch_facts hc hlt _ _⟩
end SVRun

end Go.Proofs.YtblbhlgihlgncaaDoor


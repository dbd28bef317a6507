/- intagliolaw13: awake, ControlTells: the walks. -/
import Derived.Test.YtbhnbjaafejcjaaDoorRefCtl
import Derived.Deep.RegionHeld3
import Derived.Laws.StructEq
set_option linter.unusedVariables false
namespace Go.Proofs.YtbhnbjaafejcjaaDoor
open Go.RowKit

@[go_sem] theorem eqC (e g b e2 g2 b2 : Int) (l u l2 u2 : Bool) (w : World) : (Op.equalIn 10000 57 (.agg #[.int .i64 e, .int .i64 g, .int .i64 b, .bool l, .bool u]) (.agg #[.int .i64 e2, .int .i64 g2, .int .i64 b2, .bool l2, .bool u2])).run Tryd.prog w
    = .ok (e == e2 && (g == g2 && (b == b2 && (l == l2 && u == u2)))) w := by
  have hS : Tryd.prog.underlying 57 = some (.struct (Tryd.prog.fieldsOf 57)) := by kernel_rfl
  have hp : Tryd.prog.stoodInHeld 57 = false := by kernel_rfl
  rw [show (10000 : Nat) = 9999 + 1 from rfl, run_equalIn_struct w 9999 57 _ _ hS hp]
  simp only [Program.fieldsOf, Tryd.underlying57]
  go_simp
  by_cases h1 : e = e2 <;> by_cases h2 : g = g2 <;> by_cases h3 : b = b2 <;> by_cases h4 : l = l2 <;> by_cases h5 : u = u2 <;> simp [h1, h2, h3, h4, h5]

@[go_sem] theorem fieldC0 (e g b : Int) (l u : Bool) (w : World) : (Instr.field 57 (.agg #[.int .i64 e, .int .i64 g, .int .i64 b, .bool l, .bool u]) 0).run Tryd.prog w = .ok (.int .i64 e) w := by kernel_rfl
@[go_sem] theorem fieldC1 (e g b : Int) (l u : Bool) (w : World) : (Instr.field 57 (.agg #[.int .i64 e, .int .i64 g, .int .i64 b, .bool l, .bool u]) 1).run Tryd.prog w = .ok (.int .i64 g) w := by kernel_rfl
@[go_sem] theorem fieldC2 (e g b : Int) (l u : Bool) (w : World) : (Instr.field 57 (.agg #[.int .i64 e, .int .i64 g, .int .i64 b, .bool l, .bool u]) 2).run Tryd.prog w = .ok (.int .i64 b) w := by kernel_rfl
@[go_sem] theorem fieldC3 (e g b : Int) (l u : Bool) (w : World) : (Instr.field 57 (.agg #[.int .i64 e, .int .i64 g, .int .i64 b, .bool l, .bool u]) 3).run Tryd.prog w = .ok (.bool l) w := by kernel_rfl
@[go_sem] theorem fieldC4 (e g b : Int) (l u : Bool) (w : World) : (Instr.field 57 (.agg #[.int .i64 e, .int .i64 g, .int .i64 b, .bool l, .bool u]) 4).run Tryd.prog w = .ok (.bool u) w := by kernel_rfl

theorem pack_yes (e g b : Int) (l u : Bool) (hf : ctlFits e g b = true) (w : World) :
    Calls Tryd.prog 31 #[CV e g b l u] w fun r w' => r = .returned (.tuple #[U (ctlW e g b l u), .nilIface]) ∧ Below w.heap.size w w' := by
  have h' : 0 ≤ e ∧ e ≤ 32767 ∧ 0 ≤ g ∧ g ≤ 2147483647 ∧ 0 ≤ b ∧ b ≤ 65535 := of_decide_eq_true hf
  refine (pack_any e g b l u ⟨by omega, by omega⟩ ⟨by omega, by omega⟩ ⟨by omega, by omega⟩ w).mono fun r w' ⟨hr, hb⟩ => ⟨?_, hb⟩
  rw [hr, PackR, if_pos hf]

theorem pack_no (e g b : Int) (l u : Bool) (he : I64 e) (hg : I64 g) (hb : I64 b) (hf : ctlFits e g b = false) (w : World) :
    Calls Tryd.prog 31 #[CV e g b l u] w fun r w' => r = .returned (.tuple #[U 0#64, .iface 31 (.int .i64 1)]) ∧ Below w.heap.size w w' := by
  refine (pack_any e g b l u he hg hb w).mono fun r w' ⟨hr, hb⟩ => ⟨?_, hb⟩
  rw [hr, PackR, hf]; rfl

set_option maxHeartbeats 1000000 in
theorem awake13 (w : World) : Calls Tryd.prog 24 #[] w fun r w' => r = .returned (.bool true) ∧ Below w.heap.size w w' := by
  go_enter Tryd.func24, Tryd.ntmps24
  go_wp2_with fail
  ((refine (pack_yes 1 2 3 true false rfl _).mono ?_); rintro e1 w1 ⟨rfl, hb1⟩)
  have hw : ctlW 1 2 3 true false = 844424930263043#64 := by decide
  rw [hw]
  go_wp2_with fail
  ((refine (top_nil _).mono ?_); rintro e2 w2 ⟨rfl, hb2⟩)
  go_wp2_with fail
  go_ret
  exact ⟨rfl, hb1.trans (hb2.mono hb1.size)⟩

/-- A box that holds a value of api.Control. -/
structure Box (w : World) (B : Nat) (e g b : Int) (l u : Bool) : Prop where
  lt : B < w.heap.size
  c0 : w.cell? ⟨B, 0, none⟩ = some (.int .i64 e)
  c1 : w.cell? ⟨B, 1, none⟩ = some (.int .i64 g)
  c2 : w.cell? ⟨B, 2, none⟩ = some (.int .i64 b)
  c3 : w.cell? ⟨B, 3, none⟩ = some (.bool l)
  c4 : w.cell? ⟨B, 4, none⟩ = some (.bool u)

theorem Box.below {w w' : World} {B : Nat} {e g b : Int} {l u : Bool} (h : Box w B e g b l u) (hb : Below w.heap.size w w') : Box w' B e g b l u :=
  ⟨Nat.lt_of_lt_of_le h.lt hb.size, (hb.cell h.lt).trans h.c0, (hb.cell h.lt).trans h.c1, (hb.cell h.lt).trans h.c2, (hb.cell h.lt).trans h.c3, (hb.cell h.lt).trans h.c4⟩

theorem Box.mk' (w : World) (e g b : Int) (l u : Bool) (T : TypeId) : Box (w.alloc (.cells #[.int .i64 e, .int .i64 g, .int .i64 b, .bool l, .bool u] T)) w.heap.size e g b l u := by
  refine ⟨by simp, ?_, ?_, ?_, ?_, ?_⟩ <;> simp [go_sem]

theorem held5 {w W W' : World} {D : Nat} {v0 v1 v2 v3 v4 : Value} (h : W.cell? ⟨D, 0, none⟩ = some v0 ∧ W.cell? ⟨D, 1, none⟩ = some v1 ∧ W.cell? ⟨D, 2, none⟩ = some v2 ∧ W.cell? ⟨D, 3, none⟩ = some v3 ∧ W.cell? ⟨D, 4, none⟩ = some v4 ∧ D < W.heap.size ∧ Below w.heap.size w W) (hb : Below W.heap.size W W') :
    W'.cell? ⟨D, 0, none⟩ = some v0 ∧ W'.cell? ⟨D, 1, none⟩ = some v1 ∧ W'.cell? ⟨D, 2, none⟩ = some v2 ∧ W'.cell? ⟨D, 3, none⟩ = some v3 ∧ W'.cell? ⟨D, 4, none⟩ = some v4 ∧ D < W'.heap.size ∧ Below w.heap.size w W' := by
  obtain ⟨h0, h1, h2, h3, h4, h5, h6⟩ := h
  exact ⟨(hb.cell h5).trans h0, (hb.cell h5).trans h1, (hb.cell h5).trans h2, (hb.cell h5).trans h3, (hb.cell h5).trans h4, Nat.lt_of_lt_of_le h5 hb.size, h6.trans (hb.mono h6.size)⟩

theorem held5_end {w W : World} {D : Nat} {v0 v1 v2 v3 v4 : Value} (h : W.cell? ⟨D, 0, none⟩ = some v0 ∧ W.cell? ⟨D, 1, none⟩ = some v1 ∧ W.cell? ⟨D, 2, none⟩ = some v2 ∧ W.cell? ⟨D, 3, none⟩ = some v3 ∧ W.cell? ⟨D, 4, none⟩ = some v4 ∧ D < W.heap.size ∧ Below w.heap.size w W) : Below w.heap.size w W := h.2.2.2.2.2.2

theorem unpack_of (e g b : Int) (l u : Bool) (hf : ctlFits e g b = true) (w : World) :
    Calls Tryd.prog 30 #[U (ctlW e g b l u)] w fun r w' => r = .returned (.agg #[.int .i64 e, .int .i64 g, .int .i64 b, .bool l, .bool u]) ∧ Below w.heap.size w w' :=
  (unpack_any _ w).mono fun r w' ⟨hr, hb⟩ => by
    obtain ⟨h1, h2, h3, h4, h5⟩ := pack_un e g b l u hf
    exact ⟨by rw [hr, unC, h1, h2, h3, h4, h5], hb⟩

theorem pack_of (x : BitVec 64) (w : World) :
    Calls Tryd.prog 31 #[unC x] w fun r w' => r = .returned (.tuple #[U x, .nilIface]) ∧ Below w.heap.size w w' := by
  have := pack_yes (unE x) (unG x) (unB x) (unL x) (unU x) (un_fits x) w
  rw [un_pack] at this
  exact this

end Go.Proofs.YtbhnbjaafejcjaaDoor


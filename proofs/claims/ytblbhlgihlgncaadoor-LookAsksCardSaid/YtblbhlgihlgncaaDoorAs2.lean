/- errors.As at a trouble at a word; cause.Top of it. -/
import Derived.Test.YtblbhlgihlgncaaDoorGb
import Derived.Test.YtblbhlgihlgncaaDoorVCheck
import Derived.Stop.Asserts
set_option linter.unusedVariables false
set_option linter.unusedSimpArgs false
namespace Go.Proofs.YtblbhlgihlgncaaDoor
section SAs2
open Go.RowKit Go.Extern.Stop Go.Stop Go.Extern

theorem Rl.typeOfAt (v : Value) (w : World) : (ReflectliteType.typeOf #[.iface 165 v]).run Tryd.prog w = .ok (.iface 127 (.agg #[.pointer (some ⟨1, 165, none⟩)])) w := by kernel_rfl
theorem Rl.assignableAt (w : World) : (ReflectliteType.relation "AssignableTo" ReflectliteType.assignableTo #[.agg #[.pointer (some ⟨1, 165, none⟩)], .iface 127 (.agg #[.pointer (some ⟨1, 37, none⟩)])]).run Tryd.prog w = .ok (.bool false) w := by kernel_rfl
theorem Rl.methodUnwrapAt (h : Value) (w : World) : (Go.method 299 165 h "Unwrap").run Tryd.prog w = .ok (129, h) w := by kernel_rfl
theorem Rl.noAsAt (a : Addr) (w : World) : (Instr.typeAssert (.iface 165 (.pointer (some a))) 34 132 true).run Tryd.prog w = .ok (.tuple #[.nilIface, .bool false]) w := run_typeAssert_lacksB Tryd.underlying132 (by kernel_rfl) (by kernel_rfl) _ _ w
theorem Rl.unwrapsAt (a : Addr) (w : World) : (Instr.typeAssert (.iface 165 (.pointer (some a))) 34 135 true).run Tryd.prog w = .ok (.tuple #[.iface 165 (.pointer (some a)), .bool true]) w := run_typeAssert_hasB Tryd.underlying135 (by kernel_rfl) _ _ w

set_option maxHeartbeats 4000000 in
theorem as_wrap (A : Nat) (e : Int) (t : Addr) (old : Value) (w : World) (hA : w.cell? ⟨A, 0, none⟩ = some (.iface 37 (.int .i64 e))) (hg : w.cell? ⟨0, 0, none⟩ = some (.iface 127 (.agg #[.pointer (some ⟨1, 34, none⟩)]))) (ht0 : w.cell? t = some old) (hf0 : w.frozen? t = false) :
    Calls Tryd.prog 20 #[.iface 165 (.pointer (some ⟨A, 0, none⟩)), .iface 64 (.pointer (some t))] w fun ev w' => ev = .returned (.bool true) ∧ w' = ((((w.alloc (.cells #[.pointer (some t)] 64)).alloc (.cells #[.pointer (some ⟨1, 64, none⟩), .pointer (some ⟨w.heap.size, 0, none⟩), .int .u64 150] 93)).alloc (.cells #[.pointer (some ⟨1, 64, none⟩), .pointer (some ⟨w.heap.size, 0, none⟩), .int .u64 150] 93)).alloc (.cells #[.int .i64 e] 37)).setCell t (.int .i64 e) := by
  have h6 := @run_callFunc_extern Tryd.prog 39 _ (fun args => ReflectliteValue.unpack (args.getD 0 (.tuple #[]))) Tryd.func39 (by kernel_rfl) (by kernel_rfl) (by kernel_rfl) (by kernel_rfl)
  have h7 := @run_callFunc_extern Tryd.prog 40 _ (ReflectliteValue.methodAny (ReflectliteValue.valueError "reflectlite.Value.Type" 0) (fun t _ _ _ => ReflectliteType.toType t)) Tryd.func40 (by kernel_rfl) (by kernel_rfl) (by kernel_rfl) (by kernel_rfl)
  have h8 := @run_callFunc_extern Tryd.prog 41 _ (ReflectliteValue.method (ReflectliteValue.valueError "reflectlite.Value.IsNil" 0) ReflectliteValue.isNil) Tryd.func41 (by kernel_rfl) (by kernel_rfl) (by kernel_rfl) (by kernel_rfl)
  have h27 := @run_callFunc_extern Tryd.prog 110 _ (ReflectliteType.abiMethod fun t => do pure (.int .u8 (← Rtype.kind t))) Tryd.func110 (by kernel_rfl) (by kernel_rfl) (by kernel_rfl) (by kernel_rfl)
  have h37 := @run_callFunc_extern Tryd.prog 120 _ (ReflectliteType.method ReflectliteType.elem) Tryd.func120 (by kernel_rfl) (by kernel_rfl) (by kernel_rfl) (by kernel_rfl)
  have h38 := @run_callFunc_extern Tryd.prog 121 _ (ReflectliteType.relation "Implements" ReflectliteType.implements_) Tryd.func121 (by kernel_rfl) (by kernel_rfl) (by kernel_rfl) (by kernel_rfl)
  have h10 := @run_callFunc_extern Tryd.prog 64 _ ReflectliteType.typeOf Tryd.func64 (by kernel_rfl) (by kernel_rfl) (by kernel_rfl) (by kernel_rfl)
  have h35 := @run_callFunc_extern Tryd.prog 118 _ (ReflectliteType.relation "AssignableTo" ReflectliteType.assignableTo) Tryd.func118 (by kernel_rfl) (by kernel_rfl) (by kernel_rfl) (by kernel_rfl)
  have h11 := @run_callFunc_extern Tryd.prog 65 _ (ReflectliteValue.method (ReflectliteValue.valueError "reflectlite.Value.Elem" 0) ReflectliteValue.elem) Tryd.func65 (by kernel_rfl) (by kernel_rfl) (by kernel_rfl) (by kernel_rfl)
  have h12 := @run_callFunc_extern Tryd.prog 66 _ ReflectliteValue.set Tryd.func66 (by kernel_rfl) (by kernel_rfl) (by kernel_rfl) (by kernel_rfl)
  have tO := Rl.typeOf25
  have tOa := Rl.typeOfAt
  have aAt := Rl.assignableAt
  have mU := Rl.methodUnwrapAt
  have n1 := Rl.noAsAt
  have n2 := Rl.unwrapsAt
  have mA := Rl.methodAssignableTo
  have a25 := Rl.assignable25
  have v25 := Rl.valueOf25
  have f6 := Rl.valueOf27
  have f7 := Rl.type27
  have mK := Rl.methodKind
  have mE := Rl.methodElem
  have mI := Rl.methodImplements
  have k27 := Rl.kind27
  have k25 := Rl.kind25
  have e27 := Rl.elem27
  have i25 := Rl.implements25
  have n8 := Rl.isNil27 ⟨w.heap.size, 0, none⟩ t ((w.alloc (.cells #[.pointer (some t)] 64)).alloc (.cells #[.pointer (some ⟨1, 64, none⟩), .pointer (some ⟨w.heap.size, 0, none⟩), .int .u64 150] 93)) (by simp)
  have hlt : 0 < w.heap.size := by
    rcases Nat.eq_zero_or_pos w.heap.size with h0 | h
    · simp [World.cell?, h0] at hg
    · exact h
  have hg2 : ((w.alloc (.cells #[.pointer (some t)] 64)).alloc (.cells #[.pointer (some ⟨1, 64, none⟩), .pointer (some ⟨w.heap.size, 0, none⟩), .int .u64 150] 93)).cell? ⟨0, 0, none⟩ = some (.iface 127 (.agg #[.pointer (some ⟨1, 34, none⟩)])) := by
    rw [World.cell?_alloc_lt _ _ ⟨0, 0, none⟩ (by simp), World.cell?_alloc_lt _ _ ⟨0, 0, none⟩ hlt]; exact hg
  have htl : t.block < w.heap.size := by
    rcases Nat.lt_or_ge t.block w.heap.size with h | h
    · exact h
    · simp [World.cell?, Array.getElem?_eq_none h] at ht0
  have el := Rl.elemV27 ⟨w.heap.size, 0, none⟩ t (((w.alloc (.cells #[.pointer (some t)] 64)).alloc (.cells #[.pointer (some ⟨1, 64, none⟩), .pointer (some ⟨w.heap.size, 0, none⟩), .int .u64 150] 93)).alloc (.cells #[.pointer (some ⟨1, 64, none⟩), .pointer (some ⟨w.heap.size, 0, none⟩), .int .u64 150] 93)) (by rw [World.cell?_alloc_lt _ _ ⟨w.heap.size, 0, none⟩ (by simp; omega)]; simp)
  have st := Rl.set25 t ⟨w.heap.size + 1 + 1 + 1, 0, none⟩ e old ((((w.alloc (.cells #[.pointer (some t)] 64)).alloc (.cells #[.pointer (some ⟨1, 64, none⟩), .pointer (some ⟨w.heap.size, 0, none⟩), .int .u64 150] 93)).alloc (.cells #[.pointer (some ⟨1, 64, none⟩), .pointer (some ⟨w.heap.size, 0, none⟩), .int .u64 150] 93)).alloc (.cells #[.int .i64 e] 37))
    (by rw [World.cell?_alloc_at _ _ _ _ (by simp)]; rfl)
    (by rw [World.cell?_alloc_lt _ _ t (by simp; omega), World.cell?_alloc_lt _ _ t (by simp; omega), World.cell?_alloc_lt _ _ t (by simp; omega), World.cell?_alloc_lt _ _ t htl]; exact ht0)
    (by rw [World.frozen?_alloc_old _ _ t (by simp; omega), World.frozen?_alloc_old _ _ t (by simp; omega), World.frozen?_alloc_old _ _ t (by simp; omega), World.frozen?_alloc_old _ _ t (Nat.ne_of_lt htl)]; exact hf0)
  have hAl : A < w.heap.size := by
    rcases Nat.lt_or_ge A w.heap.size with h | h
    · exact h
    · simp [World.cell?, Array.getElem?_eq_none h] at hA
  have hA3 : (((w.alloc (.cells #[.pointer (some t)] 64)).alloc (.cells #[.pointer (some ⟨1, 64, none⟩), .pointer (some ⟨w.heap.size, 0, none⟩), .int .u64 150] 93)).alloc (.cells #[.pointer (some ⟨1, 64, none⟩), .pointer (some ⟨w.heap.size, 0, none⟩), .int .u64 150] 93)).cell? ⟨A, 0, none⟩ = some (.iface 37 (.int .i64 e)) := by
    rw [World.cell?_alloc_lt _ _ ⟨A, 0, none⟩ (by simp; omega), World.cell?_alloc_lt _ _ ⟨A, 0, none⟩ (by simp; omega), World.cell?_alloc_lt _ _ ⟨A, 0, none⟩ hAl]; exact hA
  go_enter Tryd.func20, Tryd.ntmps20
  go_wp2
  refine wp_loop_rounds 2 ?_
  rw [rounds_succ]
  go_wp2
  rw [rounds_succ]
  go_wp2
  go_ret
  exact ⟨rfl, rfl⟩

set_option maxHeartbeats 1000000 in
theorem top_at (A : Nat) (c : Int) (w : World) (hg : LaidE w) (hA0 : w.cell? ⟨A, 0, none⟩ = some (.iface 37 (.int .i64 c))) : Calls Tryd.prog 7 #[.iface 165 (.pointer (some ⟨A, 0, none⟩))] w fun e w' => e = .returned (.int .i64 c) ∧ Below w.heap.size w w' := by
  have hlt := hg.pos
  have hAl : A < w.heap.size := by
    rcases Nat.lt_or_ge A w.heap.size with h | h
    · exact h
    · simp [World.cell?, Array.getElem?_eq_none h] at hA0
  have hgA : (w.alloc (.cells #[.int .i64 0] 37)).cell? ⟨0, 0, none⟩ = some (.iface 127 (.agg #[.pointer (some ⟨1, 34, none⟩)])) := by
    rw [World.cell?_alloc_lt _ _ ⟨0, 0, none⟩ hlt]; exact hg
  have htA : (w.alloc (.cells #[.int .i64 0] 37)).cell? ⟨w.heap.size, 0, none⟩ = some (.int .i64 0) := by simp
  have hfA : (w.alloc (.cells #[.int .i64 0] 37)).frozen? ⟨w.heap.size, 0, none⟩ = false := by simp
  have hAA : (w.alloc (.cells #[.int .i64 0] 37)).cell? ⟨A, 0, none⟩ = some (.iface 37 (.int .i64 c)) := (World.cell?_alloc_lt _ _ ⟨A, 0, none⟩ hAl).trans hA0
  go_enter Tryd.func7, Tryd.ntmps7
  go_wp2_with (go_at_call 20; refine (as_wrap A c _ (.int .i64 0) _ hAA hgA htA hfA).mono ?_; rintro e w' ⟨rfl, rfl⟩)
  go_ret
  refine ⟨rfl, ?_⟩
  refine Below.alloc ?_ (by simp; omega) _
  refine Below.alloc ?_ (by simp; omega) _
  refine Below.alloc ?_ (by simp; omega) _
  refine Below.alloc ?_ (by simp) _
  exact (Below.refl _ w).alloc (Nat.le_refl _) _
theorem top_errW {e : Int} {p : Option Nat} {u : Value} {w : World} (hg : LaidE w) (h : ErrW w u e p) : Calls Tryd.prog 7 #[u] w fun r w' => r = .returned (.int .i64 e) ∧ Below w.heap.size w w' := by
  cases p with
  | none =>
    have h : u = ErrV e := h
    rw [h]
    exact top_err e w hg
  | some p =>
    obtain ⟨A, rfl, hA⟩ := h
    exact top_at A e w hg (by unfold AtB at hA; simp only [World.cell?, hA]; rfl)
end SAs2

end Go.Proofs.YtblbhlgihlgncaaDoor


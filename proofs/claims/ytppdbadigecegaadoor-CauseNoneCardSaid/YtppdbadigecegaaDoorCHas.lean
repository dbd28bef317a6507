/- errors.Is, cause.Has. -/
import Derived.Test.YtppdbadigecegaaDoorCIs
set_option linter.unusedVariables false
set_option linter.unusedSimpArgs false
namespace Go.Proofs.YtppdbadigecegaaDoor
section SCHas
open Go.RowKit Go.Extern.Stop Go.Stop Go.Extern

theorem Rl.methodComparable (h : Value) (w : World) : (Go.method 249 88 (.agg #[h]) "Comparable").run Tryd.prog w = .ok (81, .agg #[h]) w := by kernel_rfl
theorem Rl.comparable25 (w : World) : (ReflectliteType.method (fun t => do Rtype.noPackHeld "Comparable" t; (fun a => Value.bool a.comparable) <$> typeInfo t) #[.agg #[.pointer (some ⟨4, 32, none⟩)]]).run Tryd.prog w = .ok (.bool true) w := by kernel_rfl
theorem Rl.eqNilErrno (e : Int) (w : World) : (binOp .eql 25 .nilIface (.iface 32 (.int .i64 e))).run Tryd.prog w = .ok (.bool false) w := by kernel_rfl

set_option maxRecDepth 100000 in
set_option maxHeartbeats 4000000 in
theorem eis_any (e : Int) (L : List (Bool × Int)) (v : Value) (w : World) (h : TC w v L) :
    Calls Tryd.prog 11 #[v, .iface 32 (.int .i64 e)] w fun r w' => r = .returned (.bool (hasL L e)) ∧ Below w.heap.size w w' := by
  have h10 := @run_callFunc_extern Tryd.prog 33 _ ReflectliteType.typeOf Tryd.func33 (by kernel_rfl) (by kernel_rfl) (by kernel_rfl) (by kernel_rfl)
  have h81 := @run_callFunc_extern Tryd.prog 81 _ (ReflectliteType.method (fun t => do Rtype.noPackHeld "Comparable" t; pure (.bool (← typeInfo t).comparable))) Tryd.func81 (by kernel_rfl) (by kernel_rfl) (by kernel_rfl) (by kernel_rfl)
  have tO := Rl.typeOf25
  have mC := Rl.methodComparable
  have c25 := Rl.comparable25
  have q1 := Rl.eqNilErrno
  rcases h.shape with ⟨rfl, rfl⟩ | ⟨hL, T, x, rfl⟩
  · go_enter Tryd.func11, Tryd.ntmps11
    go_wp2
    go_ret
    exact ⟨rfl, Below.refl _ _⟩
  · have his := hid (is_all e L.length L (.iface T x) w (Nat.le_refl _) hL h)
    clear h
    go_enter Tryd.func11, Tryd.ntmps11
    go_wp2_with (go_at_call 34; refine his.out.mono ?_; rintro r2 w2 ⟨rfl, hb2⟩)
    go_ret
    exact ⟨rfl, hb2⟩

/-- Whether it has the code; nothing has OK. -/
def hasV (L : List (Bool × Int)) (e : Int) : Bool := if L = [] then (e == 0) else hasL L e
theorem chas_any (e : Int) (L : List (Bool × Int)) (v : Value) (w : World) (h : TC w v L) :
    Calls Tryd.prog 21 #[v, .int .i64 e] w fun r w' => r = .returned (.bool (hasV L e)) ∧ Below w.heap.size w w' := by
  rcases h.shape with ⟨rfl, rfl⟩ | ⟨hL, T, x, rfl⟩
  · go_enter Tryd.func21, Tryd.ntmps21
    go_wp2
    go_ret
    exact ⟨rfl, Below.refl _ _⟩
  · have his := hid (eis_any e L (.iface T x) w h)
    have hv := hid (show hasL L e = hasV L e by rw [hasV, if_neg hL])
    clear h
    go_enter Tryd.func21, Tryd.ntmps21
    go_wp2_with (go_at_call 11; refine his.out.mono ?_; rintro r2 w2 ⟨rfl, hb2⟩)
    go_ret
    exact ⟨congrArg (fun b => Ending.returned (.bool b)) hv.out, hb2⟩
end SCHas

end Go.Proofs.YtppdbadigecegaaDoor


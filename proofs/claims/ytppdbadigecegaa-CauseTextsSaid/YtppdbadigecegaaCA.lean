/- errors.As at '*api.Errno': a nil error; an error that is a code itself. (Turned from the kit's worked example 'toyas'.) -/
import Derived.Test.YtppdbadigecegaaProg
import Derived.Test.YtppdbadigecegaaGa
import Derived.LaidEql
import Derived.Stop.Asserts
set_option linter.unusedVariables false
set_option linter.unusedSimpArgs false
namespace Go.Proofs.Ytppdbadigecegaa
section SCA
open Go.RowKit Go.Extern.Stop Go.Stop Go.Extern

/-! ### CLOSED FACTS ON THE MODEL's ENTRIES FOR internal/reflectlite, at this program's types: 25: *p.E · 27: **p.E · 23: error · 45: reflectlite's rtype · 1: how many package-level variables the dump has -/
theorem Rl.kind25 (w : World) : ((ReflectliteType.abiMethod fun t => (fun a : Nat => Value.int IntKind.u8 (a : Int)) <$> Rtype.kind t) #[.pointer (some ⟨3, 32, none⟩)]).run Try.prog w = .ok (.int .u8 2) w := by kernel_rfl

/-! ### THE ENTRIES THAT READ OR WRITE MEMORY: laws with a premise on the cell (after Derived/Lib/ReflectliteSlice.lean's manner: each unfolding a lemma of its own, by rfl) -/
theorem rlm (z : Sem Value) (f : TypeId → Addr → Nat → Nat → Sem Value) (v : Value) :
    ReflectliteValue.method z f #[v] = (do match ← ReflectliteValue.parts v with | none => z | some (t, a, fl) => f t a fl (fl % 32)) := rfl
theorem Rl.valueOf25 (e : Int) (w : World) : (ReflectliteValue.unpack (.iface 32 (.int .i64 e))).run Try.prog w
    = .ok (.agg #[.pointer (some ⟨3, 32, none⟩), .pointer (some ⟨w.heap.size, 0, none⟩), .int .u64 130]) (w.alloc (.cells #[.int .i64 e] 32)) := by kernel_rfl

theorem Rl.mk25 (p : Addr) (w : World) : (ReflectliteValue.mk 32 p ReflectliteValue.flagAddr).run Try.prog w = .ok (.agg #[.pointer (some ⟨3, 32, none⟩), .pointer (some p), .int .u64 386]) w := by kernel_rfl
theorem rls (v x : Value) : ReflectliteValue.set #[v, x] = (do
    let (some (dst, a, fl), some (src, b, _)) := (← ReflectliteValue.parts v, ← ReflectliteValue.parts x)
      | unsupported (.noEntry "extern/(internal/reflectlite.Value).Set.zeroValue")
    if fl / ReflectliteValue.flagAddr % 2 == 0 then unsupported (.noEntry "extern/(internal/reflectlite.Value).Set.unaddressable")
    let val ← loadVar src b
    if ← Rtype.directlyAssignable dst src then storeVar dst a val
    else if ← Rtype.implements dst src then
      if (← Rtype.kind src) == 20 then
        match val with
        | .nilIface => unsupported (.noEntry "extern/reflectlite: a nil value of one interface type handed on as a value of another")
        | _ => storeVar dst a val
      else storeVar dst a (.iface src val)
    else panicString ("reflectlite.Set: value of type " ++ (← Rtype.spelt src) ++ " is not assignable to type " ++ (← Rtype.spelt dst))
    pure (.tuple #[])) := rfl
theorem Rl.parts25a (a : Addr) (w : World) : (ReflectliteValue.parts (.agg #[.pointer (some ⟨3, 32, none⟩), .pointer (some a), .int .u64 386])).run Try.prog w = .ok (some (32, a, 386)) w := by kernel_rfl
theorem Rl.parts25 (a : Addr) (w : World) : (ReflectliteValue.parts (.agg #[.pointer (some ⟨3, 32, none⟩), .pointer (some a), .int .u64 130])).run Try.prog w = .ok (some (32, a, 130)) w := by kernel_rfl
theorem Rl.direct25 (w : World) : (Rtype.directlyAssignable 32 32).run Try.prog w = .ok true w := by kernel_rfl
theorem Rl.size25 (w : World) : (sizeOf 32).run Try.prog w = .ok 1 w := by kernel_rfl
/-- (Value).Set: the *p.E variable at 'ta' gets what the Value's own variable 'b' holds. -/
theorem Rl.set25 (ta : Addr) (b : Addr) (e : Int) (old : Value) (W : World) (hb : W.cell? b = some (.int .i64 e)) (ht : W.cell? ta = some old) (hf : W.frozen? ta = false) :
    (ReflectliteValue.set #[.agg #[.pointer (some ⟨3, 32, none⟩), .pointer (some ta), .int .u64 386], .agg #[.pointer (some ⟨3, 32, none⟩), .pointer (some b), .int .u64 130]]).run Try.prog W
      = .ok (.tuple #[]) (W.setCell ta (.int .i64 e)) := by
  rw [rls]
  simp only [Sem.run_bind, Rl.parts25a, Rl.parts25, Result.andThen]
  simp [ReflectliteValue.flagAddr, loadVar, isAgg, underlying, Try.underlying32, hb, Result.andThen, Rl.direct25, storeVar, Value.cells, storeCells, Addr.add]
  rw [run_store Try.prog W ta _ _ (by rfl)]
  simp [ht, hf]

end SCA

end Go.Proofs.Ytppdbadigecegaa


/- errors.As at '*api.Errno': a nil error; an error that is a code itself. (Turned from the kit's worked example 'toyas'.) -/
import Derived.Test.YtppdbadigecegaaDoorProg
import Derived.Test.YtppdbadigecegaaDoorGa
import Derived.LaidEql
import Derived.Stop.Asserts
set_option linter.unusedVariables false
set_option linter.unusedSimpArgs false
namespace Go.Proofs.YtppdbadigecegaaDoor
section SCA
open Go.RowKit Go.Extern.Stop Go.Stop Go.Extern

/-- errors.As(nil, target). -/
theorem as_nil (t : Value) (w : World) :
    Calls Tryd.prog 10 #[.nilIface, t] w fun e w' => e = .returned (.bool false) ∧ w' = w := by
  go_enter Tryd.func10, Tryd.ntmps10
  go_wp2
  go_ret
  exact ⟨rfl, rfl⟩

/-! ### CLOSED FACTS ON THE MODEL's ENTRIES FOR internal/reflectlite, at this program's types: 25: *p.E · 27: **p.E · 23: error · 45: reflectlite's rtype · 1: how many package-level variables the dump has -/
theorem Rl.valueOf27 (t : Addr) (w : World) : (ReflectliteValue.unpack (.iface 34 (.pointer (some t)))).run Tryd.prog w
    = .ok (.agg #[.pointer (some ⟨4, 34, none⟩), .pointer (some ⟨w.heap.size, 0, none⟩), .int .u64 150]) (w.alloc (.cells #[.pointer (some t)] 34)) := by kernel_rfl
theorem Rl.type27 (a : Addr) (w : World) : (ReflectliteValue.methodAny (ReflectliteValue.valueError "reflectlite.Value.Type" 0) (fun t _ _ _ => ReflectliteType.toType t) #[.agg #[.pointer (some ⟨4, 34, none⟩), .pointer (some a), .int .u64 150]]).run Tryd.prog w
    = .ok (.iface 88 (.agg #[.pointer (some ⟨4, 34, none⟩)])) w := by kernel_rfl
theorem Rl.methodKind (h : Value) (w : World) : (Go.method 249 88 (.agg #[h]) "Kind").run Tryd.prog w = .ok (54, h) w := by kernel_rfl
theorem Rl.kind27 (w : World) : ((ReflectliteType.abiMethod fun t => (fun a : Nat => Value.int IntKind.u8 (a : Int)) <$> Rtype.kind t) #[.pointer (some ⟨4, 34, none⟩)]).run Tryd.prog w = .ok (.int .u8 22) w := by kernel_rfl
theorem Rl.kind25 (w : World) : ((ReflectliteType.abiMethod fun t => (fun a : Nat => Value.int IntKind.u8 (a : Int)) <$> Rtype.kind t) #[.pointer (some ⟨4, 32, none⟩)]).run Tryd.prog w = .ok (.int .u8 2) w := by kernel_rfl

/-! ### THE ENTRIES THAT READ OR WRITE MEMORY: laws with a premise on the cell (after Derived/Lib/ReflectliteSlice.lean's manner: each unfolding a lemma of its own, by rfl) -/
theorem rlm (z : Sem Value) (f : TypeId → Addr → Nat → Nat → Sem Value) (v : Value) :
    ReflectliteValue.method z f #[v] = (do match ← ReflectliteValue.parts v with | none => z | some (t, a, fl) => f t a fl (fl % 32)) := rfl
theorem Rl.parts27 (a : Addr) (w : World) : (ReflectliteValue.parts (.agg #[.pointer (some ⟨4, 34, none⟩), .pointer (some a), .int .u64 150])).run Tryd.prog w = .ok (some (34, a, 150)) w := by kernel_rfl
/-- (Value).IsNil at the Value of a **p.E that is not nil. -/
theorem Rl.isNil27 (a p : Addr) (W : World) (ha : W.cell? a = some (.pointer (some p))) :
    (ReflectliteValue.method (ReflectliteValue.valueError "reflectlite.Value.IsNil" 0) ReflectliteValue.isNil #[.agg #[.pointer (some ⟨4, 34, none⟩), .pointer (some a), .int .u64 150]]).run Tryd.prog W = .ok (.bool false) W := by
  rw [rlm]
  simp only [Sem.run_bind, Rl.parts27, Result.andThen]
  simp [ReflectliteValue.isNil, loadVar, isAgg, underlying, Tryd.underlying34, ha, Result.andThen]

theorem Rl.methodElem (h : Value) (w : World) : (Go.method 249 88 (.agg #[h]) "Elem").run Tryd.prog w = .ok (82, .agg #[h]) w := by kernel_rfl
theorem Rl.methodImplements (h : Value) (w : World) : (Go.method 249 88 (.agg #[h]) "Implements").run Tryd.prog w = .ok (83, .agg #[h]) w := by kernel_rfl
theorem Rl.methodAssignableTo (h : Value) (w : World) : (Go.method 249 88 (.agg #[h]) "AssignableTo").run Tryd.prog w = .ok (80, .agg #[h]) w := by kernel_rfl
theorem Rl.elem27 (w : World) : (ReflectliteType.method ReflectliteType.elem #[.agg #[.pointer (some ⟨4, 34, none⟩)]]).run Tryd.prog w = .ok (.iface 88 (.agg #[.pointer (some ⟨4, 32, none⟩)])) w := by kernel_rfl
theorem Rl.implements25 (w : World) : (ReflectliteType.relation "Implements" ReflectliteType.implements_ #[.agg #[.pointer (some ⟨4, 32, none⟩)], .iface 88 (.agg #[.pointer (some ⟨4, 25, none⟩)])]).run Tryd.prog w = .ok (.bool true) w := by kernel_rfl
theorem Rl.typeOf25 (v : Value) (w : World) : (ReflectliteType.typeOf #[.iface 32 v]).run Tryd.prog w = .ok (.iface 88 (.agg #[.pointer (some ⟨4, 32, none⟩)])) w := by kernel_rfl
theorem Rl.assignable25 (w : World) : (ReflectliteType.relation "AssignableTo" ReflectliteType.assignableTo #[.agg #[.pointer (some ⟨4, 32, none⟩)], .iface 88 (.agg #[.pointer (some ⟨4, 32, none⟩)])]).run Tryd.prog w = .ok (.bool true) w := by kernel_rfl
theorem Rl.valueOf25 (e : Int) (w : World) : (ReflectliteValue.unpack (.iface 32 (.int .i64 e))).run Tryd.prog w
    = .ok (.agg #[.pointer (some ⟨4, 32, none⟩), .pointer (some ⟨w.heap.size, 0, none⟩), .int .u64 130]) (w.alloc (.cells #[.int .i64 e] 32)) := by kernel_rfl

theorem Rl.elemOf27 (w : World) : (Rtype.elem? 34).run Tryd.prog w = .ok (some 32) w := by kernel_rfl
theorem Rl.mk25 (p : Addr) (w : World) : (ReflectliteValue.mk 32 p ReflectliteValue.flagAddr).run Tryd.prog w = .ok (.agg #[.pointer (some ⟨4, 32, none⟩), .pointer (some p), .int .u64 386]) w := by kernel_rfl
/-- (Value).Elem at the Value of a **p.E that is not nil: the Value of the *p.E variable that it points to, addressable. -/
theorem Rl.elemV27 (a p : Addr) (W : World) (ha : W.cell? a = some (.pointer (some p))) :
    (ReflectliteValue.method (ReflectliteValue.valueError "reflectlite.Value.Elem" 0) ReflectliteValue.elem #[.agg #[.pointer (some ⟨4, 34, none⟩), .pointer (some a), .int .u64 150]]).run Tryd.prog W
      = .ok (.agg #[.pointer (some ⟨4, 32, none⟩), .pointer (some p), .int .u64 386]) W := by
  rw [rlm]
  simp only [Sem.run_bind, Rl.parts27, Result.andThen]
  simp [ReflectliteValue.elem, loadVar, isAgg, underlying, Tryd.underlying34, ha, Result.andThen, Rl.elemOf27, Rl.mk25]
theorem rls (v x : Value) : ReflectliteValue.set #[v, x] = (do
    let (some (dst, a, fl), some (src, b, _)) := (← ReflectliteValue.parts v, ← ReflectliteValue.parts x)
      | unsupported (.noEntry "extern/(internal/reflectlite.Value).Set.zeroValue")
    if fl / ReflectliteValue.flagAddr % 2 == 0 then unsupported (.noEntry "extern/(internal/reflectlite.Value).Set.unaddressable")
    let val ← loadVar src b
    if ← Rtype.directlyAssignable dst src then storeVar dst a val
    else if ← Rtype.implements dst src then
      if (← Rtype.kind src) == 20 then
        match val with
        | .nilIface => unsupported (.noEntry "extern/reflectlite: a nil value of one interface type handed on as a value of another")
        | _ => storeVar dst a val
      else storeVar dst a (.iface src val)
    else panicString ("reflectlite.Set: value of type " ++ (← Rtype.spelt src) ++ " is not assignable to type " ++ (← Rtype.spelt dst))
    pure (.tuple #[])) := rfl
theorem Rl.parts25a (a : Addr) (w : World) : (ReflectliteValue.parts (.agg #[.pointer (some ⟨4, 32, none⟩), .pointer (some a), .int .u64 386])).run Tryd.prog w = .ok (some (32, a, 386)) w := by kernel_rfl
theorem Rl.parts25 (a : Addr) (w : World) : (ReflectliteValue.parts (.agg #[.pointer (some ⟨4, 32, none⟩), .pointer (some a), .int .u64 130])).run Tryd.prog w = .ok (some (32, a, 130)) w := by kernel_rfl
theorem Rl.direct25 (w : World) : (Rtype.directlyAssignable 32 32).run Tryd.prog w = .ok true w := by kernel_rfl
theorem Rl.size25 (w : World) : (sizeOf 32).run Tryd.prog w = .ok 1 w := by kernel_rfl
/-- (Value).Set: the *p.E variable at 'ta' gets what the Value's own variable 'b' holds. -/
theorem Rl.set25 (ta : Addr) (b : Addr) (e : Int) (old : Value) (W : World) (hb : W.cell? b = some (.int .i64 e)) (ht : W.cell? ta = some old) (hf : W.frozen? ta = false) :
    (ReflectliteValue.set #[.agg #[.pointer (some ⟨4, 32, none⟩), .pointer (some ta), .int .u64 386], .agg #[.pointer (some ⟨4, 32, none⟩), .pointer (some b), .int .u64 130]]).run Tryd.prog W
      = .ok (.tuple #[]) (W.setCell ta (.int .i64 e)) := by
  rw [rls]
  simp only [Sem.run_bind, Rl.parts25a, Rl.parts25, Result.andThen]
  simp [ReflectliteValue.flagAddr, loadVar, isAgg, underlying, Tryd.underlying32, hb, Result.andThen, Rl.direct25, storeVar, Value.cells, storeCells, Addr.add]
  rw [run_store Tryd.prog W ta _ _ (by rfl)]
  simp [ht, hf]

set_option maxHeartbeats 4000000 in
theorem as_hit (e : Int) (t : Addr) (old : Value) (w : World) (hg : w.cell? ⟨0, 0, none⟩ = some (.iface 88 (.agg #[.pointer (some ⟨4, 25, none⟩)]))) (ht0 : w.cell? t = some old) (hf0 : w.frozen? t = false) :
    Calls Tryd.prog 10 #[.iface 32 (.int .i64 e), .iface 34 (.pointer (some t))] w fun ev w' => ev = .returned (.bool true) ∧ w' = ((((w.alloc (.cells #[.pointer (some t)] 34)).alloc (.cells #[.pointer (some ⟨4, 34, none⟩), .pointer (some ⟨w.heap.size, 0, none⟩), .int .u64 150] 66)).alloc (.cells #[.pointer (some ⟨4, 34, none⟩), .pointer (some ⟨w.heap.size, 0, none⟩), .int .u64 150] 66)).alloc (.cells #[.int .i64 e] 32)).setCell t (.int .i64 e) := by
  have h6 := @run_callFunc_extern Tryd.prog 29 _ (fun args => ReflectliteValue.unpack (args.getD 0 (.tuple #[]))) Tryd.func29 (by kernel_rfl) (by kernel_rfl) (by kernel_rfl) (by kernel_rfl)
  have h7 := @run_callFunc_extern Tryd.prog 30 _ (ReflectliteValue.methodAny (ReflectliteValue.valueError "reflectlite.Value.Type" 0) (fun t _ _ _ => ReflectliteType.toType t)) Tryd.func30 (by kernel_rfl) (by kernel_rfl) (by kernel_rfl) (by kernel_rfl)
  have h8 := @run_callFunc_extern Tryd.prog 31 _ (ReflectliteValue.method (ReflectliteValue.valueError "reflectlite.Value.IsNil" 0) ReflectliteValue.isNil) Tryd.func31 (by kernel_rfl) (by kernel_rfl) (by kernel_rfl) (by kernel_rfl)
  have h27 := @run_callFunc_extern Tryd.prog 54 _ (ReflectliteType.abiMethod fun t => do pure (.int .u8 (← Rtype.kind t))) Tryd.func54 (by kernel_rfl) (by kernel_rfl) (by kernel_rfl) (by kernel_rfl)
  have h37 := @run_callFunc_extern Tryd.prog 82 _ (ReflectliteType.method ReflectliteType.elem) Tryd.func82 (by kernel_rfl) (by kernel_rfl) (by kernel_rfl) (by kernel_rfl)
  have h38 := @run_callFunc_extern Tryd.prog 83 _ (ReflectliteType.relation "Implements" ReflectliteType.implements_) Tryd.func83 (by kernel_rfl) (by kernel_rfl) (by kernel_rfl) (by kernel_rfl)
  have h10 := @run_callFunc_extern Tryd.prog 33 _ ReflectliteType.typeOf Tryd.func33 (by kernel_rfl) (by kernel_rfl) (by kernel_rfl) (by kernel_rfl)
  have h35 := @run_callFunc_extern Tryd.prog 80 _ (ReflectliteType.relation "AssignableTo" ReflectliteType.assignableTo) Tryd.func80 (by kernel_rfl) (by kernel_rfl) (by kernel_rfl) (by kernel_rfl)
  have h11 := @run_callFunc_extern Tryd.prog 38 _ (ReflectliteValue.method (ReflectliteValue.valueError "reflectlite.Value.Elem" 0) ReflectliteValue.elem) Tryd.func38 (by kernel_rfl) (by kernel_rfl) (by kernel_rfl) (by kernel_rfl)
  have h12 := @run_callFunc_extern Tryd.prog 39 _ ReflectliteValue.set Tryd.func39 (by kernel_rfl) (by kernel_rfl) (by kernel_rfl) (by kernel_rfl)
  have tO := Rl.typeOf25
  have mA := Rl.methodAssignableTo
  have a25 := Rl.assignable25
  have v25 := Rl.valueOf25
  have f6 := Rl.valueOf27
  have f7 := Rl.type27
  have mK := Rl.methodKind
  have mE := Rl.methodElem
  have mI := Rl.methodImplements
  have k27 := Rl.kind27
  have k25 := Rl.kind25
  have e27 := Rl.elem27
  have i25 := Rl.implements25
  have n8 := Rl.isNil27 ⟨w.heap.size, 0, none⟩ t ((w.alloc (.cells #[.pointer (some t)] 34)).alloc (.cells #[.pointer (some ⟨4, 34, none⟩), .pointer (some ⟨w.heap.size, 0, none⟩), .int .u64 150] 66)) (by simp)
  have hlt : 0 < w.heap.size := by
    rcases Nat.eq_zero_or_pos w.heap.size with h0 | h
    · simp [World.cell?, h0] at hg
    · exact h
  have hg2 : ((w.alloc (.cells #[.pointer (some t)] 34)).alloc (.cells #[.pointer (some ⟨4, 34, none⟩), .pointer (some ⟨w.heap.size, 0, none⟩), .int .u64 150] 66)).cell? ⟨0, 0, none⟩ = some (.iface 88 (.agg #[.pointer (some ⟨4, 25, none⟩)])) := by
    rw [World.cell?_alloc_lt _ _ ⟨0, 0, none⟩ (by simp), World.cell?_alloc_lt _ _ ⟨0, 0, none⟩ hlt]; exact hg
  have htl : t.block < w.heap.size := by
    rcases Nat.lt_or_ge t.block w.heap.size with h | h
    · exact h
    · simp [World.cell?, Array.getElem?_eq_none h] at ht0
  have el := Rl.elemV27 ⟨w.heap.size, 0, none⟩ t (((w.alloc (.cells #[.pointer (some t)] 34)).alloc (.cells #[.pointer (some ⟨4, 34, none⟩), .pointer (some ⟨w.heap.size, 0, none⟩), .int .u64 150] 66)).alloc (.cells #[.pointer (some ⟨4, 34, none⟩), .pointer (some ⟨w.heap.size, 0, none⟩), .int .u64 150] 66)) (by rw [World.cell?_alloc_lt _ _ ⟨w.heap.size, 0, none⟩ (by simp; omega)]; simp)
  have st := Rl.set25 t ⟨w.heap.size + 1 + 1 + 1, 0, none⟩ e old ((((w.alloc (.cells #[.pointer (some t)] 34)).alloc (.cells #[.pointer (some ⟨4, 34, none⟩), .pointer (some ⟨w.heap.size, 0, none⟩), .int .u64 150] 66)).alloc (.cells #[.pointer (some ⟨4, 34, none⟩), .pointer (some ⟨w.heap.size, 0, none⟩), .int .u64 150] 66)).alloc (.cells #[.int .i64 e] 32))
    (by rw [World.cell?_alloc_at _ _ _ _ (by simp)]; rfl)
    (by rw [World.cell?_alloc_lt _ _ t (by simp; omega), World.cell?_alloc_lt _ _ t (by simp; omega), World.cell?_alloc_lt _ _ t (by simp; omega), World.cell?_alloc_lt _ _ t htl]; exact ht0)
    (by rw [World.frozen?_alloc_old _ _ t (by simp; omega), World.frozen?_alloc_old _ _ t (by simp; omega), World.frozen?_alloc_old _ _ t (by simp; omega), World.frozen?_alloc_old _ _ t (Nat.ne_of_lt htl)]; exact hf0)
  go_enter Tryd.func10, Tryd.ntmps10
  go_wp2
  refine wp_loop_rounds 1 ?_
  rw [rounds_succ]
  go_wp2
  go_ret
  exact ⟨rfl, rfl⟩
end SCA

end Go.Proofs.YtppdbadigecegaaDoor


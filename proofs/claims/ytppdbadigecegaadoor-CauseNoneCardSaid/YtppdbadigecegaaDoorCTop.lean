/- errors.As of any trouble; cause.Top. -/
import Derived.Test.YtppdbadigecegaaDoorCAs2
set_option linter.unusedVariables false
set_option linter.unusedSimpArgs false
namespace Go.Proofs.YtppdbadigecegaaDoor
section SCTop
open Go.RowKit Go.Extern.Stop Go.Stop Go.Extern

set_option maxRecDepth 100000 in
set_option maxHeartbeats 4000000 in
theorem eas_some (L : List (Bool × Int)) (v : Value) (t : Addr) (old : Value) (w : World) (hL : L ≠ []) (hT : TC w v L) (hg : LaidE w) (ht0 : w.cell? t = some old) (hf0 : w.frozen? t = false) :
    Calls Tryd.prog 10 #[v, .iface 34 (.pointer (some t))] w (AsP w t (topL L)) := by
  have h6 := @run_callFunc_extern Tryd.prog 29 _ (fun args => ReflectliteValue.unpack (args.getD 0 (.tuple #[]))) Tryd.func29 (by kernel_rfl) (by kernel_rfl) (by kernel_rfl) (by kernel_rfl)
  have h7 := @run_callFunc_extern Tryd.prog 30 _ (ReflectliteValue.methodAny (ReflectliteValue.valueError "reflectlite.Value.Type" 0) (fun t _ _ _ => ReflectliteType.toType t)) Tryd.func30 (by kernel_rfl) (by kernel_rfl) (by kernel_rfl) (by kernel_rfl)
  have h8 := @run_callFunc_extern Tryd.prog 31 _ (ReflectliteValue.method (ReflectliteValue.valueError "reflectlite.Value.IsNil" 0) ReflectliteValue.isNil) Tryd.func31 (by kernel_rfl) (by kernel_rfl) (by kernel_rfl) (by kernel_rfl)
  have h27 := @run_callFunc_extern Tryd.prog 54 _ (ReflectliteType.abiMethod fun t => do pure (.int .u8 (← Rtype.kind t))) Tryd.func54 (by kernel_rfl) (by kernel_rfl) (by kernel_rfl) (by kernel_rfl)
  have h37 := @run_callFunc_extern Tryd.prog 82 _ (ReflectliteType.method ReflectliteType.elem) Tryd.func82 (by kernel_rfl) (by kernel_rfl) (by kernel_rfl) (by kernel_rfl)
  have h38 := @run_callFunc_extern Tryd.prog 83 _ (ReflectliteType.relation "Implements" ReflectliteType.implements_) Tryd.func83 (by kernel_rfl) (by kernel_rfl) (by kernel_rfl) (by kernel_rfl)
  have f6 := Rl.valueOf27
  have f7 := Rl.type27
  have mK := Rl.methodKind
  have mE := Rl.methodElem
  have mI := Rl.methodImplements
  have k27 := Rl.kind27
  have k25 := Rl.kind25
  have e27 := Rl.elem27
  have i25 := Rl.implements25
  have n8 := Rl.isNil27 ⟨w.heap.size, 0, none⟩ t ((w.alloc (.cells #[.pointer (some t)] 34)).alloc (.cells #[.pointer (some ⟨4, 34, none⟩), .pointer (some ⟨w.heap.size, 0, none⟩), .int .u64 150] 66)) (by simp)
  have hlt : 0 < w.heap.size := LaidE.pos hg
  have hg2 : ((w.alloc (.cells #[.pointer (some t)] 34)).alloc (.cells #[.pointer (some ⟨4, 34, none⟩), .pointer (some ⟨w.heap.size, 0, none⟩), .int .u64 150] 66)).cell? ⟨0, 0, none⟩ = some (.iface 88 (.agg #[.pointer (some ⟨4, 25, none⟩)])) := by
    rw [World.cell?_alloc_lt _ _ ⟨0, 0, none⟩ (by simp), World.cell?_alloc_lt _ _ ⟨0, 0, none⟩ hlt]; exact hg
  obtain ⟨W, hW⟩ : ∃ W, (w.alloc (.cells #[.pointer (some t)] 34)).alloc (.cells #[.pointer (some ⟨4, 34, none⟩), .pointer (some ⟨w.heap.size, 0, none⟩), .int .u64 150] 66) = W := ⟨_, rfl⟩
  have hbW : Below w.heap.size w W := hW ▸ via (below_alloc w _) (below_alloc _ _)
  have hc : W.cell? ⟨w.heap.size, 0, none⟩ = some (.pointer (some t)) := by rw [← hW]; simp
  have has := hid (as_all L.length L v t ⟨w.heap.size, 0, none⟩ old W (Nat.le_refl _) hL (hT.below hbW) hc ((hbW.cell (p := t) (cell_lt ht0)).trans ht0) ((hbW.frozen (p := t) (cell_lt ht0)).trans hf0))
  rw [← hW] at has hbW
  have Hb := hid hbW
  obtain ⟨T9, x9, rfl⟩ := hT.iface hL
  clear hT hc hW hbW
  go_enter Tryd.func10, Tryd.ntmps10
  go_wp2_with (go_at_call 32; refine has.out.mono ?_; rintro r1 w1 ⟨rfl, hc1, hg1⟩)
  go_ret
  exact ⟨rfl, hc1, grown_more (grown_below (World.grownBy.refl w (some t.block)) Hb.out) hg1 (fun g e => .inr e)⟩

/-- The topmost code. -/
theorem ctop_any (L : List (Bool × Int)) (v : Value) (w : World) (hT : TC w v L) (hg : LaidE w) : Calls Tryd.prog 15 #[v] w fun r w' => r = .returned (.int .i64 (topL L)) ∧ Below w.heap.size w w' := by
  rcases hT.shape with ⟨rfl, rfl⟩ | ⟨hL, T9, x9, rfl⟩
  · exact top_nil w
  · obtain ⟨W, hW⟩ : ∃ W, w.alloc (.cells #[.int .i64 0] 32) = W := ⟨_, rfl⟩
    have hbW : Below w.heap.size w W := hW ▸ below_alloc _ _
    have hc : W.cell? ⟨w.heap.size, 0, none⟩ = some (.int .i64 0) := by rw [← hW]; simp
    have hf : W.frozen? ⟨w.heap.size, 0, none⟩ = false := by rw [← hW]; simp
    have has := hid (eas_some L (.iface T9 x9) ⟨w.heap.size, 0, none⟩ _ W hL (hT.below hbW) (LaidE.below hg hbW (LaidE.pos hg)) hc hf)
    rw [← hW] at has hbW
    have Hb := hid hbW
    clear hT hc hf hW hbW
    go_enter Tryd.func15, Tryd.ntmps15
    go_wp2_with (go_at_call 10; refine has.out.mono ?_; rintro r1 w1 ⟨rfl, hc1, hg1⟩)
    go_ret
    exact ⟨rfl, Hb.out.grown hg1 Hb.out.size (fun b e => by obtain rfl := Option.some.inj e; exact Nat.le_refl _)⟩
end SCTop

end Go.Proofs.YtppdbadigecegaaDoor


/- errors.As at *api.Errno, of any trouble; cause.Top. -/
import Derived.Test.YtppdbadigecegaaDoorCHas
set_option linter.unusedVariables false
set_option linter.unusedSimpArgs false
namespace Go.Proofs.YtppdbadigecegaaDoor
section SCAs2
open Go.RowKit Go.Extern.Stop Go.Stop Go.Extern

theorem Rl.typeOfAt (v : Value) (w : World) : (ReflectliteType.typeOf #[.iface 79 v]).run Tryd.prog w = .ok (.iface 88 (.agg #[.pointer (some ⟨4, 79, none⟩)])) w := by kernel_rfl
theorem Rl.assignableAt (w : World) : (ReflectliteType.relation "AssignableTo" ReflectliteType.assignableTo #[.agg #[.pointer (some ⟨4, 79, none⟩)], .iface 88 (.agg #[.pointer (some ⟨4, 32, none⟩)])]).run Tryd.prog w = .ok (.bool false) w := by kernel_rfl
theorem Rl.typeOfOver (v : Value) (w : World) : (ReflectliteType.typeOf #[.iface 60 v]).run Tryd.prog w = .ok (.iface 88 (.agg #[.pointer (some ⟨4, 60, none⟩)])) w := by kernel_rfl
theorem Rl.assignableOver (w : World) : (ReflectliteType.relation "AssignableTo" ReflectliteType.assignableTo #[.agg #[.pointer (some ⟨4, 60, none⟩)], .iface 88 (.agg #[.pointer (some ⟨4, 32, none⟩)])]).run Tryd.prog w = .ok (.bool false) w := by kernel_rfl
theorem Rl.noAsAt (a : Addr) (w : World) : (Instr.typeAssert (.iface 79 (.pointer (some a))) 25 92 true).run Tryd.prog w = .ok (.tuple #[.nilIface, .bool false]) w := run_typeAssert_lacksB Tryd.underlying92 (by kernel_rfl) (by kernel_rfl) _ _ w
theorem Rl.noAsOver (a : Addr) (w : World) : (Instr.typeAssert (.iface 60 (.pointer (some a))) 25 92 true).run Tryd.prog w = .ok (.tuple #[.nilIface, .bool false]) w := run_typeAssert_lacksB Tryd.underlying92 (by kernel_rfl) (by kernel_rfl) _ _ w

/-- Its topmost code. -/
def topL (L : List (Bool × Int)) : Int := (codesL L).headD 0
theorem topL_word (x : Int) (L : List (Bool × Int)) : topL ((true, x) :: L) = topL L := by rw [topL, codesL_cons, if_pos rfl]; rfl
theorem topL_code (x : Int) (L : List (Bool × Int)) : topL ((false, x) :: L) = x := by rw [topL, codesL_cons, if_neg (by decide)]; rfl

abbrev ValT (av : Addr) : Value := .agg #[.pointer (some ⟨4, 34, none⟩), .pointer (some av), .int .u64 150]
abbrev TypT : Value := .iface 88 (.agg #[.pointer (some ⟨4, 32, none⟩)])
def AsP (w : World) (t : Addr) (c : Int) (r : Ending) (w' : World) : Prop := r = .returned (.bool true) ∧ w'.cell? t = some (.int .i64 c) ∧ w.grownBy w' (some t.block)
def AsC (n : Nat) : Prop := ∀ (L : List (Bool × Int)) (v : Value) (t av : Addr) (old : Value) (w : World), L.length ≤ n → L ≠ [] → TC w v L → w.cell? av = some (.pointer (some t)) → w.cell? t = some old → w.frozen? t = false →
  Calls Tryd.prog 32 #[v, .iface 34 (.pointer (some t)), ValT av, TypT] w (AsP w t (topL L))
def AsR (w : World) (L : List (Bool × Int)) (v : Value) (wr : World) : Prop := wr = w ∧ ∃ M, M ≠ [] ∧ M.length ≤ L.length ∧ TC w v M ∧ topL M = topL L
theorem cell_lt {w : World} {p : Addr} {v : Value} (h : w.cell? p = some v) : p.block < w.heap.size := by
  rcases Nat.lt_or_ge p.block w.heap.size with h1 | h1
  · exact h1
  · simp [World.cell?, Array.getElem?_eq_none h1] at h
/-- The Value's box, and the code's: it is set. -/
theorem as_set {w W : World} {t : Addr} {old : Value} (e : Int) (ht0 : w.cell? t = some old) (hf0 : w.frozen? t = false) (hb : Below w.heap.size w W) :
    ((W.alloc (.cells #[.int .i64 e] 32)).cell? t = some old ∧ (W.alloc (.cells #[.int .i64 e] 32)).frozen? t = false) ∧
    (((W.alloc (.cells #[.int .i64 e] 32)).setCell t (.int .i64 e)).cell? t = some (.int .i64 e) ∧ w.grownBy ((W.alloc (.cells #[.int .i64 e] 32)).setCell t (.int .i64 e)) (some t.block)) := by
  have hlt := cell_lt ht0
  have hb2 := via hb (below_alloc W (.cells #[.int .i64 e] 32))
  have h1 := (hb2.cell (p := t) hlt).trans ht0
  exact ⟨⟨h1, (hb2.frozen hlt).trans hf0⟩, World.cell?_setCell_same _ _ _ h1, grown_set (grown_below (World.grownBy.refl w (some t.block)) hb2) (.inr rfl) _⟩

set_option maxHeartbeats 4000000 in
set_option maxRecDepth 100000 in
theorem as_step (n : Nat) (ih : AsC n) : AsC (n + 1) := by
  intro L v t av old w hn hL hT hav ht0 hf0
  have h10 := @run_callFunc_extern Tryd.prog 33 _ ReflectliteType.typeOf Tryd.func33 (by kernel_rfl) (by kernel_rfl) (by kernel_rfl) (by kernel_rfl)
  have h35 := @run_callFunc_extern Tryd.prog 80 _ (ReflectliteType.relation "AssignableTo" ReflectliteType.assignableTo) Tryd.func80 (by kernel_rfl) (by kernel_rfl) (by kernel_rfl) (by kernel_rfl)
  have h6 := @run_callFunc_extern Tryd.prog 29 _ (fun args => ReflectliteValue.unpack (args.getD 0 (.tuple #[]))) Tryd.func29 (by kernel_rfl) (by kernel_rfl) (by kernel_rfl) (by kernel_rfl)
  have h11 := @run_callFunc_extern Tryd.prog 38 _ (ReflectliteValue.method (ReflectliteValue.valueError "reflectlite.Value.Elem" 0) ReflectliteValue.elem) Tryd.func38 (by kernel_rfl) (by kernel_rfl) (by kernel_rfl) (by kernel_rfl)
  have h12 := @run_callFunc_extern Tryd.prog 39 _ ReflectliteValue.set Tryd.func39 (by kernel_rfl) (by kernel_rfl) (by kernel_rfl) (by kernel_rfl)
  have tO := Rl.typeOf25
  have tOa := Rl.typeOfAt
  have tOo := Rl.typeOfOver
  have mA := Rl.methodAssignableTo
  have a25 := Rl.assignable25
  have aAt := Rl.assignableAt
  have aOv := Rl.assignableOver
  have v25 := Rl.valueOf25
  have q7 := Rl.noAsAt
  have q8 := Rl.noAsOver
  have q9 := Rl.unAt
  have q10 := Rl.noUnOver
  have q11 := Rl.unsOver
  have q12 := Rl.methodUnAt
  have q13 := Rl.methodUnOver
  have Hih := hid ih
  obtain ⟨W1, hW1⟩ : ∃ W1, w.alloc (.cells #[.pointer (some ⟨4, 34, none⟩), .pointer (some av), .int .u64 150] 66) = W1 := ⟨_, rfl⟩
  have hb1 : Below w.heap.size w W1 := hW1 ▸ below_alloc _ _
  have b0 : W1.cell? ⟨w.heap.size, 0, none⟩ = some (.pointer (some ⟨4, 34, none⟩)) := by rw [← hW1]; simp
  have b1 : W1.cell? ⟨w.heap.size, 1, none⟩ = some (.pointer (some av)) := by rw [← hW1]; simp
  have b2 : W1.cell? ⟨w.heap.size, 2, none⟩ = some (.int .u64 150) := by rw [← hW1]; simp
  have hlt1 : w.heap.size < W1.heap.size := cell_lt b0
  have hav1 := (hb1.cell (p := av) (cell_lt hav)).trans hav
  have ht1 := (hb1.cell (p := t) (cell_lt ht0)).trans ht0
  have hf1 := (hb1.frozen (p := t) (cell_lt ht0)).trans hf0
  have el := Rl.elemV27 av t W1 hav1
  have hset := hid fun e => as_set e ht0 hf0 hb1
  have hrel0 := hid (show AsR W1 L v W1 from ⟨rfl, L, hL, Nat.le_refl _, hT.below hb1, rfl⟩)
  have HL := hid (And.intro hn hL)
  have Hav := hid hav1
  have Ht := hid (And.intro ht1 hf1)
  have Hlw := hid (cell_lt ht0)
  have st := hid fun e => Rl.set25 t ⟨W1.heap.size, 0, none⟩ e old (W1.alloc (.cells #[.int .i64 e] 32)) (by simp) (hset.out e).1.1 (hset.out e).1.2
  clear hn hL hT ih hav ht0 hf0 hav1 ht1 hf1
  go_enter Tryd.func32, Tryd.ntmps32
  go_wp2
  go_loopw [0] (fun v wr => AsR W1 L v wr) (fun v wr => lenT wr v)
  case atStart => exact hrel0.out
  case round =>
    clear hrel0
    obtain ⟨rfl, M, hM, hML, hTM, htop⟩ := hrel
    have hlen := lenT_eq hTM
    match M, hM, hML, hTM, htop, hlen with
    | (b, x) :: rest, _, hML, hTM, htop, hlen =>
    rcases hTM with ⟨rfl, rfl, rfl⟩ | ⟨rfl, hne, A, u, rfl, hA, g0, g1, hTu⟩ | ⟨rfl, hne, A, u, rfl, hA, g0, g1, hTu⟩
    · rw [topL_code] at htop
      have hres := hid (hset.out x).2
      have hst := st.out x
      have Htop := hid htop
      clear htop hlen
      go_wp2
      go_ret
      exact ⟨rfl, by rw [← Htop.out]; exact hres.out.1, hres.out.2⟩
    · rw [topL_word] at htop
      obtain ⟨T9, x9, rfl⟩ := hTu.iface hne
      have hunw := hid (unwrap_at A (.iface T9 x9) wr g0 ⟨_, _, rfl⟩)
      have hrel2 := hid (show AsR wr L (.iface T9 x9) wr from ⟨rfl, rest, hne, by simp at hML; omega, hTu, htop⟩)
      have hm2 := hid (show lenT wr (.iface T9 x9) < lenT wr (.iface 79 (.pointer (some ⟨A, 0, none⟩))) by rw [hlen, lenT_eq hTu]; simp)
      clear htop hlen g0 g1 hTu hA
      go_wp2_with (go_at_call 64; refine hunw.out.mono ?_; rintro r1 w1 ⟨rfl, rfl⟩)
      go_roundw
      case rel => exact hrel2.out
      case measure => exact hm2.out
    · rw [topL_code] at htop
      have Htop := hid htop
      obtain ⟨T9, x9, rfl⟩ := hTu.iface hne
      have hunw := hid (unwrap_over A x (.iface T9 x9) wr g0 g1 ⟨_, _, rfl⟩)
      have hn1 : 1 ≤ n := by have := HL.out.1; have := List.length_pos_iff.2 hne; simp at hML; omega
      have hcode := hid fun W (hW : Below wr.heap.size wr W) => Hih.out [(false, x)] (.iface 32 (.int .i64 x)) t av old W hn1 (by simp) (.inl ⟨rfl, rfl, rfl⟩) ((hW.cell (cell_lt Hav.out)).trans Hav.out) ((hW.cell (cell_lt Ht.out.1)).trans Ht.out.1) ((hW.frozen (cell_lt Ht.out.1)).trans Ht.out.2)
      clear htop hlen g0 g1 hTu hA hn1
      unfold UnP at hunw
      go_wp2_with (go_at_call 59; refine hunw.out.mono ?_; rintro r1 w1 ⟨g, rfl, hgl, hbw, c0, c1⟩)
      replace b0 := (hbw.cell (p := ⟨w.heap.size, 0, none⟩) hlt1).trans b0
      replace b1 := (hbw.cell (p := ⟨w.heap.size, 1, none⟩) hlt1).trans b1
      replace b2 := (hbw.cell (p := ⟨w.heap.size, 2, none⟩) hlt1).trans b2
      refine wp_loop_rounds 1 ?_
      rw [rounds_succ]
      go_wp2_with (go_at_call 32; refine (hcode.out _ hbw).mono ?_; rintro r2 w2 ⟨rfl, hc2, hg2⟩)
      go_ret
      refine ⟨rfl, by rw [← Htop.out]; exact hc2, grown_more (grown_below (World.grownBy.refl w (some t.block)) (via hb1 hbw)) hg2 (fun g e => .inr e)⟩
theorem as_all : ∀ n, AsC n
  | 0 => fun L v t av old w h hL _ _ _ _ => absurd (List.length_pos_iff.2 hL) (by omega)
  | n + 1 => as_step n (as_all n)
end SCAs2

end Go.Proofs.YtppdbadigecegaaDoor

